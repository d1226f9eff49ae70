/- The words of a reckoner for Go functions: cells, values, blocks, outcomes, as symbols; what they stand for in a world. No Go text in sight. States as symbols; what an operation does to one; that the world goes with it. No Go text in sight. Operations on numbers, Booleans, strings, as outcomes; that they tell what the model does. No Go text in sight. Operations on memory, as requests: what they read, what they write, what they come to. No Go text in sight. Addresses, cuts, parts, lengths. No Go text in sight. Two structs or arrays held against each other; structs built. No Go text in sight. append onto rows of numbers. No Go text in sight. Rows of numbers written out; bytes as a string. No Go text in sight. Every operation as a request; a step of the walk. No Go text in sight. Regions: in the order of the text; in every order that their edges allow. No Go text in sight. A region that draws its order: it is enough to reckon it in the order of the text, where what stands in no order does not touch the same. No Go text in sight. -/
import Derived.WalkKit
import Derived.Below
import Derived.Orders
import Derived.Laws.BitsAllLaws
import Derived.Laws.CopyRow
import Derived.Laws.Cells
import Derived.ChangeKeysEq
import Derived.Deep.AppendSrc
import Derived.Great.BuildSlice
import Derived.Laws.BytesString
import Derived.Laws.MakeOwn
namespace Go.Proofs.Ytcaipfdnadlkdaa.Sx
open Go
set_option linter.unusedVariables false
set_option linter.unusedSimpArgs false

/-- where a name lies: its block, where in it, and (of a row of the call's own) the slice that holds it -/
structure Loc where
  b : Nat
  off : Nat
  hd : Value

/-- one cell: 'num', 'tru': a number, a Boolean that is written out; 'int', 'boo': any; places are told by names -/
inductive SC where
  | num (k : IntKind) (n : Int)
  | int (k : IntKind) (n : Int)
  | tru (b : Bool)
  | boo (b : Bool)
  | str (s : ByteArray)
  | nil
  | ptr (b i e j : Nat)
  | sli (b i e j n c : Nat) (q : Bool)
  | own (b n c : Nat) (q : Bool)
  | nos
  | fn (f : FuncId)

abbrev Mu := Nat → Option Loc

def SC.ok (μ : Mu) : SC → Value → Prop
  | .num k n, v => v = .int k n
  | .int k n, v => v = .int k n
  | .tru b, v => v = .bool b
  | .boo b, v => v = .bool b
  | .str s, v => v = .string s
  | .nil, v => v = .pointer none
  | .ptr b i e j, v => ∃ l, μ b = some l ∧ v = .pointer (some ⟨l.b, l.off + (i * e + j), none⟩)
  | .sli b i e j n c _, v => ∃ l a, μ b = some l ∧ v = .slice a n c ∧ (0 < c → a = some ⟨l.b, l.off + (i * e + j), none⟩) ∧ n ≤ c ∧ c ≤ maxLen
  | .own b n c _, v => ∃ l a, μ b = some l ∧ v = l.hd ∧ l.hd = .slice a n c ∧ (0 < c → a = some ⟨l.b, l.off, none⟩) ∧ n ≤ c ∧ c ≤ maxLen
  | .nos, v => ∃ a, v = .slice a 0 0
  | .fn f, v => v = .func (.func f) #[] #[]

def All2 (R : SC → Value → Prop) : List SC → List Value → Prop
  | [], [] => True
  | c :: cs, v :: vs => R c v ∧ All2 R cs vs
  | _, _ => False

inductive S1 where
  | c (x : SC)
  | a (cs : List SC)
def S1.ok (μ : Mu) : S1 → Value → Prop
  | .c x, v => x.ok μ v
  | .a cs, v => ∃ vs : List Value, v = .agg vs.toArray ∧ All2 (SC.ok μ) cs vs
def AllS (R : S1 → Value → Prop) : List S1 → List Value → Prop
  | [], [] => True
  | c :: cs, v :: vs => R c v ∧ AllS R cs vs
  | _, _ => False
/-- a value; 'u': any -/
inductive SV where
  | s (x : S1)
  | t (xs : List S1)
  | u
def SV.ok (μ : Mu) : SV → Value → Prop
  | .s x, v => x.ok μ v
  | .t xs, v => ∃ vs : List Value, v = .tuple vs.toArray ∧ AllS (S1.ok μ) xs vs
  | .u, _ => True

/-- what an object's row holds -/
inductive OL where
  | ints (k : IntKind) (l : List Int)
  | strs (l : List ByteArray)
  | raws (l : List Value)
def OL.vals : OL → List Value
  | .ints k l => l.map (.int k)
  | .strs l => l.map .string
  | .raws l => l
/-- a block: whole and the call's; a row that came, to be read; a row of the call's own -/
inductive Blk where
  | cells (t : TypeId) (cs : List SC)
  | view (e n : Nat) (f : Nat → List SC)
  | own (t : TypeId) (e n : Nat) (f : Nat → List SC)
  | ints (k : IntKind) (l : List Int)
  | oints (k : IntKind) (l : List Int)
  | obj (t : TypeId) (hd : List Int) (l : OL)
/-- a row of numbers, as a function -/
def intsF (k : IntKind) (l : List Int) (i : Nat) : List SC := [.int k (l.getD i 0)]

/-- what a list of cells reads as, element by element -/
def Elems (μ : Mu) (e n : Nat) (f : Nat → List SC) (at_ : Nat → Option Value) : Prop :=
  ∀ i, i < n → (f i).length = e ∧ ∀ j c, (f i)[j]? = some c → ∃ v, at_ (i * e + j) = some v ∧ c.ok μ v

def viewOk (μ : Mu) (w : World) (l : Loc) (e n : Nat) (f : Nat → List SC) : Prop := (0 < n → l.b < w.heap.size) ∧ Elems μ e n f fun x => w.cell? ⟨l.b, l.off + x, none⟩
def ownOk (μ : Mu) (w : World) (l : Loc) (t : TypeId) (e n : Nat) (f : Nat → List SC) : Prop :=
  ∃ (a : Option Addr) (c : Nat) (xs : List Value), l.hd = .slice a n c ∧ n ≤ c ∧ c ≤ maxLen ∧ xs.length = n * e ∧
      (0 < c → a = some ⟨l.b, l.off, none⟩ ∧ ∃ cur : Array Value, w.heap[l.b]? = some (.cells cur t (0, 0)) ∧ l.off + c * e ≤ cur.size ∧ ∀ x, x < n * e → cur[l.off + x]? = xs[x]?) ∧
      Elems μ e n f fun x => xs[x]?
/-- an object: a struct of numbers and, last, a row of its own -/
def objOk (w : World) (l : Loc) (t : TypeId) (hd : List Int) (L : List Value) : Prop :=
  l.off = 0 ∧ ∃ (a : Option Addr) (c : Nat), w.heap[l.b]? = some (.cells (hd.map (Value.int .i64) ++ [Value.slice a L.length c]).toArray t (0, 0)) ∧ L.length ≤ c ∧ c ≤ maxLen ∧
    (0 < c → ∃ (b off : Nat) (cur : Array Value) (tc : TypeId), a = some ⟨b, off, none⟩ ∧ b ≠ l.b ∧ w.heap[b]? = some (.cells cur tc (0, 0)) ∧ off + c ≤ cur.size ∧ ∀ i, i < L.length → cur[off + i]? = L[i]?)
/-- the blocks that an object's struct tells of -/
def rowsOf : List Value → Nat → Prop
  | [.slice (some a) _ (_ + 1)], x => a.block = x
  | _ :: vs, x => rowsOf vs x
  | [], _ => False
def objFoot (w : World) (l : Loc) (x : Nat) : Prop := l.b = x ∨ match w.heap[l.b]? with
  | some (.cells cur _ _) => rowsOf cur.toList x
  | _ => False
def Blk.ok (μ : Mu) (w : World) (l : Loc) : Blk → Prop
  | .cells t cs => l.off = 0 ∧ ∃ vs : List Value, w.heap[l.b]? = some (.cells vs.toArray t (0, 0)) ∧ All2 (SC.ok μ) cs vs
  | .view e n f => viewOk μ w l e n f
  | .own t e n f => ownOk μ w l t e n f
  | .ints k L => viewOk μ w l 1 L.length (intsF k L)
  | .oints k L => ∃ t, ownOk μ w l t 1 L.length (intsF k L)
  | .obj t hd L => objOk w l t hd L.vals

def Value.noRow : Value → Bool
  | .slice _ _ 0 => true
  | _ => false
def Blk.excl (w : World) (l : Loc) : Blk → Nat → Prop
  | .cells _ _, x => l.b = x
  | .view _ _ _, _ => False
  | .own _ _ _ _, x => Value.noRow l.hd = false ∧ l.b = x
  | .ints _ _, _ => False
  | .oints _ _, x => Value.noRow l.hd = false ∧ l.b = x
  | .obj _ _ _, x => objFoot w l x
def Blk.uses (w : World) (l : Loc) : Blk → Nat → Prop
  | .cells _ _, x => l.b = x
  | .view _ n _, x => n ≠ 0 ∧ l.b = x
  | .own _ _ _ _, x => Value.noRow l.hd = false ∧ l.b = x
  | .ints _ L, x => L.length ≠ 0 ∧ l.b = x
  | .oints _ _, x => Value.noRow l.hd = false ∧ l.b = x
  | .obj _ _ _, x => objFoot w l x
theorem Blk.uses_of_excl {w : World} {l : Loc} {b : Blk} {x : Nat} (h : b.excl w l x) : b.uses w l x := by
  cases b <;> simp_all [Blk.excl, Blk.uses]
/-- where a block is as it was, it takes as much as it took -/
theorem Blk.uses_world {w w' : World} {l : Loc} {b : Blk} (h : ∀ x, b.uses w l x → w'.heap[x]? = w.heap[x]?) (x : Nat) : (b.uses w' l x ↔ b.uses w l x) ∧ (b.excl w' l x ↔ b.excl w l x) := by
  cases b with
  | obj t hd L =>
    have e : w'.heap[l.b]? = w.heap[l.b]? := h l.b (.inl rfl)
    simp only [Blk.uses, Blk.excl, objFoot, e, and_self]
  | _ => exact ⟨Iff.rfl, Iff.rfl⟩

def Ext (μ μ' : Mu) : Prop := ∀ n l, μ n = some l → μ' n = some l
theorem Ext.refl (μ : Mu) : Ext μ μ := fun _ _ h => h
theorem Ext.trans {a b c : Mu} (h : Ext a b) (k : Ext b c) : Ext a c := fun n l x => k n l (h n l x)

theorem SC.ok_ext {μ μ' : Mu} (h : Ext μ μ') {c : SC} {v : Value} (hc : c.ok μ v) : c.ok μ' v := by
  cases c with
  | ptr b i e j => obtain ⟨l, hl, hv⟩ := hc; exact ⟨l, h _ _ hl, hv⟩
  | sli b i e j n c q => obtain ⟨l, a, hl, hv⟩ := hc; exact ⟨l, a, h _ _ hl, hv⟩
  | own b n c q => obtain ⟨l, a, hl, hv⟩ := hc; exact ⟨l, a, h _ _ hl, hv⟩
  | _ => exact hc
theorem All2.imp {R R' : SC → Value → Prop} (h : ∀ c v, R c v → R' c v) : ∀ {cs : List SC} {vs : List Value}, All2 R cs vs → All2 R' cs vs
  | [], [], _ => trivial
  | _ :: _, _ :: _, hh => ⟨h _ _ hh.1, All2.imp h hh.2⟩
  | [], _ :: _, hh => hh.elim
  | _ :: _, [], hh => hh.elim
theorem All2.len {R : SC → Value → Prop} : ∀ {cs : List SC} {vs : List Value}, All2 R cs vs → vs.length = cs.length
  | [], [], _ => rfl
  | _ :: _, _ :: _, hh => by simp [All2.len hh.2]
  | [], _ :: _, hh => hh.elim
  | _ :: _, [], hh => hh.elim
theorem All2.get {R : SC → Value → Prop} : ∀ {cs : List SC} {vs : List Value}, All2 R cs vs → ∀ (i : Nat) (c : SC), cs[i]? = some c → ∃ v, vs[i]? = some v ∧ R c v
  | [], _, _, _, _, h => by simp at h
  | _ :: _, v :: _, hh, 0, c, h => by
    simp at h
    subst h
    exact ⟨v, rfl, hh.1⟩
  | _ :: cs, _ :: vs, hh, i + 1, c, h => by
    simpa using All2.get hh.2 i c (by simpa using h)
  | _ :: _, [], hh, _, _, _ => hh.elim
theorem All2.mk {R : SC → Value → Prop} : ∀ {cs : List SC} {vs : List Value}, vs.length = cs.length → (∀ (i : Nat) (c : SC) (v : Value), cs[i]? = some c → vs[i]? = some v → R c v) → All2 R cs vs
  | [], [], _, _ => trivial
  | c :: cs, v :: vs, hl, h => ⟨h 0 c v rfl rfl, All2.mk (by simpa using hl) fun i c' v' h1 h2 => h (i + 1) c' v' (by simpa using h1) (by simpa using h2)⟩
  | [], _ :: _, hl, _ => by simp at hl
  | _ :: _, [], hl, _ => by simp at hl
theorem S1.ok_ext {μ μ' : Mu} (h : Ext μ μ') {x : S1} {v : Value} (hx : x.ok μ v) : x.ok μ' v := by
  cases x with
  | c x => exact SC.ok_ext h hx
  | a cs => obtain ⟨vs, hv, ha⟩ := hx; exact ⟨vs, hv, ha.imp fun _ _ => SC.ok_ext h⟩
theorem AllS.imp {R R' : S1 → Value → Prop} (h : ∀ c v, R c v → R' c v) : ∀ {cs : List S1} {vs : List Value}, AllS R cs vs → AllS R' cs vs
  | [], [], _ => trivial
  | _ :: _, _ :: _, hh => ⟨h _ _ hh.1, AllS.imp h hh.2⟩
  | [], _ :: _, hh => hh.elim
  | _ :: _, [], hh => hh.elim
theorem AllS.get {R : S1 → Value → Prop} : ∀ {cs : List S1} {vs : List Value}, AllS R cs vs → ∀ (i : Nat) (c : S1), cs[i]? = some c → ∃ v, vs[i]? = some v ∧ R c v
  | [], _, _, _, _, h => by simp at h
  | _ :: _, v :: _, hh, 0, c, h => by
    simp at h
    subst h
    exact ⟨v, rfl, hh.1⟩
  | _ :: cs, _ :: vs, hh, i + 1, c, h => by
    simpa using AllS.get hh.2 i c (by simpa using h)
  | _ :: _, [], hh, _, _, _ => hh.elim
theorem SV.ok_ext {μ μ' : Mu} (h : Ext μ μ') {x : SV} {v : Value} (hx : x.ok μ v) : x.ok μ' v := by
  cases x with
  | s x => exact S1.ok_ext h hx
  | t xs => obtain ⟨vs, hv, ha⟩ := hx; exact ⟨vs, hv, ha.imp fun _ _ => S1.ok_ext h⟩
  | u => trivial
theorem Elems.ext {μ μ' : Mu} (h : Ext μ μ') {e n : Nat} {f : Nat → List SC} {a : Nat → Option Value} (hx : Elems μ e n f a) : Elems μ' e n f a := fun i hi => by
  obtain ⟨h1, h2⟩ := hx i hi
  exact ⟨h1, fun j c hc => by obtain ⟨v, hv, hok⟩ := h2 j c hc; exact ⟨v, hv, SC.ok_ext h hok⟩⟩
theorem viewOk.ext {μ μ' : Mu} (h : Ext μ μ') {w : World} {l : Loc} {e n : Nat} {f : Nat → List SC} (hb : viewOk μ w l e n f) : viewOk μ' w l e n f := ⟨hb.1, hb.2.ext h⟩
theorem ownOk.ext {μ μ' : Mu} (h : Ext μ μ') {w : World} {l : Loc} {t : TypeId} {e n : Nat} {f : Nat → List SC} (hb : ownOk μ w l t e n f) : ownOk μ' w l t e n f := by
  obtain ⟨a, c, xs, h1, h2, h3, h4, h5, h6⟩ := hb
  exact ⟨a, c, xs, h1, h2, h3, h4, h5, h6.ext h⟩
theorem Blk.ok_ext {μ μ' : Mu} (h : Ext μ μ') {w : World} {l : Loc} {b : Blk} (hb : b.ok μ w l) : b.ok μ' w l := by
  cases b with
  | cells t cs => obtain ⟨h0, vs, hv, ha⟩ := hb; exact ⟨h0, vs, hv, ha.imp fun _ _ => SC.ok_ext h⟩
  | view e n f => exact viewOk.ext h hb
  | own t e n f => exact ownOk.ext h hb
  | ints k L => exact viewOk.ext h hb
  | oints k L => obtain ⟨t, hb⟩ := hb; exact ⟨t, ownOk.ext h hb⟩
  | obj t hd L => exact hb
theorem viewOk.world {μ : Mu} {w w' : World} {l : Loc} {e n : Nat} {f : Nat → List SC} (hb : viewOk μ w l e n f) (hsz : w.heap.size ≤ w'.heap.size) (h : n ≠ 0 → w'.heap[l.b]? = w.heap[l.b]?) : viewOk μ w' l e n f := by
  refine ⟨fun hn => by have := hb.1 hn; omega, fun i hi => ?_⟩
  obtain ⟨h1, h2⟩ := hb.2 i hi
  refine ⟨h1, fun j c hc => ?_⟩
  obtain ⟨v, hv, hok⟩ := h2 j c hc
  refine ⟨v, ?_, hok⟩
  have := h (by omega)
  simp only [World.cell?] at hv ⊢
  rw [this]
  exact hv
theorem ownOk.world {μ : Mu} {w w' : World} {l : Loc} {t : TypeId} {e n : Nat} {f : Nat → List SC} (hb : ownOk μ w l t e n f) (h : Value.noRow l.hd = false → w'.heap[l.b]? = w.heap[l.b]?) : ownOk μ w' l t e n f := by
  obtain ⟨a, c, xs, h1, h2, h3, h4, h5, h6⟩ := hb
  refine ⟨a, c, xs, h1, h2, h3, h4, fun hc => ?_, h6⟩
  obtain ⟨ha, cur, hcur, hr⟩ := h5 hc
  refine ⟨ha, cur, ?_, hr⟩
  have hno : Value.noRow l.hd = false := by
    rw [h1]
    cases c with
    | zero => omega
    | succ c => rfl
  exact (h hno).trans hcur
theorem rowsOf_snoc {a : Addr} {n c : Nat} : ∀ {vs : List Int}, rowsOf (vs.map (Value.int .i64) ++ [Value.slice (some a) n (c + 1)]) a.block
  | [] => rfl
  | v :: vs => by
    have := rowsOf_snoc (a := a) (n := n) (c := c) (vs := vs)
    cases vs with
    | nil => exact this
    | cons _ _ => exact this
theorem rowsOf_inv {a : Option Addr} {n c x : Nat} : ∀ {vs : List Int}, rowsOf (vs.map (Value.int .i64) ++ [Value.slice a n c]) x → ∃ b, a = some b ∧ 0 < c ∧ b.block = x
  | [], h => by
    cases a with
    | none => cases c <;> exact h.elim
    | some a => cases c with
      | zero => exact h.elim
      | succ c => exact ⟨a, rfl, by omega, h⟩
  | v :: vs, h => by
    have h' : rowsOf (vs.map (Value.int .i64) ++ [Value.slice a n c]) x := by
      cases vs with
      | nil => exact h
      | cons _ _ => exact h
    exact rowsOf_inv h'
theorem objOk.world {w w' : World} {l : Loc} {t : TypeId} {hd : List Int} {L : List Value} (hb : objOk w l t hd L) (h : ∀ x, objFoot w l x → w'.heap[x]? = w.heap[x]?) : objOk w' l t hd L := by
  obtain ⟨h0, a, c, h1, h2, h3, h4⟩ := hb
  refine ⟨h0, a, c, (h _ (.inl rfl)).trans h1, h2, h3, fun hc => ?_⟩
  obtain ⟨b, off, cur, tc, g1, g2, g3, g4, g5⟩ := h4 hc
  refine ⟨b, off, cur, tc, g1, g2, (h b (.inr ?_)).trans g3, g4, g5⟩
  rw [h1]
  obtain ⟨c, rfl⟩ : ∃ k, c = k + 1 := ⟨c - 1, by omega⟩
  subst g1
  exact rowsOf_snoc
/-- a block that the world holds as before holds as before -/
theorem Blk.ok_world {μ : Mu} {w w' : World} {l : Loc} {b : Blk} (hb : b.ok μ w l) (hsz : w.heap.size ≤ w'.heap.size) (h : ∀ x, b.uses w l x → w'.heap[x]? = w.heap[x]?) : b.ok μ w' l := by
  cases b with
  | cells t cs => obtain ⟨h0, vs, hv, ha⟩ := hb; exact ⟨h0, vs, (h _ rfl).trans hv, ha⟩
  | view e n f => exact viewOk.world hb hsz fun hn => h l.b ⟨hn, rfl⟩
  | own t e n f => exact ownOk.world hb fun hn => h l.b ⟨hn, rfl⟩
  | ints k L => exact viewOk.world hb hsz fun hn => h l.b ⟨hn, rfl⟩
  | oints k L => obtain ⟨t, hb⟩ := hb; exact ⟨t, ownOk.world hb fun hn => h l.b ⟨hn, rfl⟩⟩
  | obj t hd L => exact objOk.world hb h

/-- a claim that the reckoner leaves as it is -/
structure Lf (p : Prop) : Prop where
  h : p
/-- outcomes, as a tree -/
inductive Out (α : Type) : Type 1 where
  | ret (a : α)
  | fail
  | eqn {A : Type} (e : A) (f : A → Out α)
  | br (c : Prop) (x y : Out α)
  | brB (b : Bool) (x y : Out α)
  | ast (p : Prop) (k : Out α)
  | fact (p : Prop) (h : p) (k : Out α)
  | all {A : Type} (φ : A → Prop) (ne : ∃ a, φ a) (f : A → Out α)
def Out.wp {α : Type} : Out α → (α → Prop) → Prop
  | .ret a, K => K a
  | .fail, _ => False
  | .eqn e f, K => ∀ x, x = e → (f x).wp K
  | .br c x y, K => (c → x.wp K) ∧ (¬c → y.wp K)
  | .brB b x y, K => (b = true → x.wp K) ∧ (b = false → y.wp K)
  | .ast p k, K => Lf p ∧ k.wp K
  | .fact p _ k, K => p → k.wp K
  | .all φ _ f, K => ∀ x, φ x → (f x).wp K
def Out.posts {α : Type} : Out α → α → Prop
  | .ret a, r => r = a
  | .fail, _ => False
  | .eqn e f, r => (f e).posts r
  | .br c x y, r => (c ∧ x.posts r) ∨ (¬c ∧ y.posts r)
  | .brB b x y, r => (b = true ∧ x.posts r) ∨ (b = false ∧ y.posts r)
  | .ast _ k, r => k.posts r
  | .fact _ _ k, r => k.posts r
  | .all φ _ f, r => ∃ x, φ x ∧ (f x).posts r
def Out.bind {α β : Type} : Out α → (α → Out β) → Out β
  | .ret a, g => g a
  | .fail, _ => .fail
  | .eqn e f, g => .eqn e fun x => (f x).bind g
  | .br c x y, g => .br c (x.bind g) (y.bind g)
  | .brB b x y, g => .brB b (x.bind g) (y.bind g)
  | .ast p k, g => .ast p (k.bind g)
  | .fact p h k, g => .fact p h (k.bind g)
  | .all φ ne f, g => .all φ ne fun x => (f x).bind g
theorem Out.wp_mono {α : Type} {K K' : α → Prop} (h : ∀ a, K a → K' a) : ∀ {o : Out α}, o.wp K → o.wp K'
  | .ret _, hh => h _ hh
  | .fail, hh => hh
  | .eqn _ _, hh => fun x hx => Out.wp_mono h (hh x hx)
  | .br _ _ _, hh => ⟨fun c => Out.wp_mono h (hh.1 c), fun c => Out.wp_mono h (hh.2 c)⟩
  | .brB _ _ _, hh => ⟨fun c => Out.wp_mono h (hh.1 c), fun c => Out.wp_mono h (hh.2 c)⟩
  | .ast _ _, hh => ⟨hh.1, Out.wp_mono h hh.2⟩
  | .fact _ _ _, hh => fun c => Out.wp_mono h (hh c)
  | .all _ _ _, hh => fun x hx => Out.wp_mono h (hh x hx)
theorem Out.wp_posts {α : Type} {K : α → Prop} : ∀ {o : Out α}, o.wp K → ∀ r, o.posts r → K r
  | .ret _, hh, _, hr => by cases hr; exact hh
  | .fail, hh, _, _ => hh.elim
  | .eqn _ _, hh, r, hr => Out.wp_posts (hh _ rfl) r hr
  | .br _ _ _, hh, r, hr => by
    rcases hr with ⟨c, hr⟩ | ⟨c, hr⟩
    · exact Out.wp_posts (hh.1 c) r hr
    · exact Out.wp_posts (hh.2 c) r hr
  | .brB _ _ _, hh, r, hr => by
    rcases hr with ⟨c, hr⟩ | ⟨c, hr⟩
    · exact Out.wp_posts (hh.1 c) r hr
    · exact Out.wp_posts (hh.2 c) r hr
  | .ast _ _, hh, r, hr => Out.wp_posts hh.2 r hr
  | .fact _ p _, hh, r, hr => Out.wp_posts (hh p) r hr
  | .all _ _ _, hh, r, ⟨x, hx, hr⟩ => Out.wp_posts (hh x hx) r hr
/-- where it goes on, it comes to something -/
theorem Out.some_ {α : Type} {K : α → Prop} : ∀ {o : Out α}, o.wp K → ∃ r, o.posts r
  | .ret a, _ => ⟨a, rfl⟩
  | .fail, hh => hh.elim
  | .eqn e f, hh => Out.some_ (o := f e) (hh e rfl)
  | .br c _ _, hh => by
    by_cases h : c
    · obtain ⟨r, hr⟩ := Out.some_ (hh.1 h); exact ⟨r, .inl ⟨h, hr⟩⟩
    · obtain ⟨r, hr⟩ := Out.some_ (hh.2 h); exact ⟨r, .inr ⟨h, hr⟩⟩
  | .brB b _ _, hh => by
    cases h : b
    · obtain ⟨r, hr⟩ := Out.some_ (hh.2 h); exact ⟨r, .inr ⟨rfl, hr⟩⟩
    · obtain ⟨r, hr⟩ := Out.some_ (hh.1 h); exact ⟨r, .inl ⟨rfl, hr⟩⟩
  | .ast _ k, hh => Out.some_ (o := k) hh.2
  | .fact _ p k, hh => Out.some_ (o := k) (hh p)
  | .all _ ne _, hh => by
    obtain ⟨x, hx⟩ := ne
    obtain ⟨r, hr⟩ := Out.some_ (hh x hx)
    exact ⟨r, x, hx, hr⟩
theorem Out.wp_const {α : Type} {X : Prop} {o : Out α} (h : o.wp fun _ => X) : X := by
  obtain ⟨r, hr⟩ := Out.some_ h
  exact Out.wp_posts h r hr
/-- what is asked ahead, and what comes: parted -/
theorem Out.wp_and {α : Type} {K K' : α → Prop} : ∀ {o : Out α}, o.wp K → (∀ r, o.posts r → K r → K' r) → o.wp K'
  | .ret _, hh, h => h _ rfl hh
  | .fail, hh, _ => hh
  | .eqn _ _, hh, h => fun x hx => by subst hx; exact Out.wp_and (hh _ rfl) h
  | .br _ _ _, hh, h => ⟨fun c => Out.wp_and (hh.1 c) fun r hr => h r (.inl ⟨c, hr⟩), fun c => Out.wp_and (hh.2 c) fun r hr => h r (.inr ⟨c, hr⟩)⟩
  | .brB _ _ _, hh, h => ⟨fun c => Out.wp_and (hh.1 c) fun r hr => h r (.inl ⟨c, hr⟩), fun c => Out.wp_and (hh.2 c) fun r hr => h r (.inr ⟨c, hr⟩)⟩
  | .ast _ _, hh, h => ⟨hh.1, Out.wp_and hh.2 h⟩
  | .fact _ _ _, hh, h => fun c => Out.wp_and (hh c) h
  | .all _ _ _, hh, h => fun x hx => Out.wp_and (hh x hx) fun r hr => h r ⟨x, hx, hr⟩
/-- two outcomes that do not hang on each other: in either order -/
theorem Out.wp_swap {α β : Type} {a : Out α} {b : Out β} {K : α → β → Prop} (h : a.wp fun x => b.wp fun y => K x y) : b.wp fun y => a.wp fun x => K x y := by
  obtain ⟨x0, hx0⟩ := Out.some_ h
  have hb := Out.wp_posts h x0 hx0
  refine Out.wp_and hb fun y hy _ => ?_
  exact Out.wp_and h fun x _ hxb => Out.wp_posts hxb y hy
theorem Out.wp_bind {α β : Type} {g : α → Out β} {K : β → Prop} : ∀ {o : Out α}, (o.bind g).wp K ↔ o.wp fun a => (g a).wp K
  | .ret _ => Iff.rfl
  | .fail => Iff.rfl
  | .eqn _ _ => forall_congr' fun _ => forall_congr' fun _ => Out.wp_bind
  | .br _ _ _ => and_congr (forall_congr' fun _ => Out.wp_bind) (forall_congr' fun _ => Out.wp_bind)
  | .brB _ _ _ => and_congr (forall_congr' fun _ => Out.wp_bind) (forall_congr' fun _ => Out.wp_bind)
  | .ast _ _ => and_congr Iff.rfl Out.wp_bind
  | .fact _ _ _ => forall_congr' fun _ => Out.wp_bind
  | .all _ _ _ => forall_congr' fun _ => forall_congr' fun _ => Out.wp_bind
end Go.Proofs.Ytcaipfdnadlkdaa.Sx

namespace Go.Proofs.Ytcaipfdnadlkdaa.Sx
open Go
set_option linter.unusedVariables false
set_option linter.unusedSimpArgs false

structure St where
  slots : List SV
  heap : Nat → Option Blk
  next : Nat

def upd (h : Nat → Option Blk) (n : Nat) (b : Option Blk) : Nat → Option Blk := fun m => if m = n then b else h m
def updL : (Nat → Option Blk) → List Nat → List (Option Blk) → Nat → Option Blk
  | h, n :: ns, b :: bs => updL (upd h n b) ns bs
  | h, _, _ => h
/-- what an operation comes to: its value, the blocks that it wrote as they are then ('none': given up), new blocks -/
structure Res where
  v : SV
  ws : List (Option Blk)
  ns : List Blk
def freshN (base : Nat) : List Nat := [base, base + 1, base + 2, base + 3]
def putS (slots : List SV) (dst : Option Nat) (x : SV) : List SV :=
  match dst with
  | some d => slots.set d x
  | none => slots
def applyH (h : Nat → Option Blk) (base : Nat) (wr : List Nat) (r : Res) : Nat → Option Blk := updL (updL h wr r.ws) (freshN base) (r.ns.map some)
def St.apply (s : St) (dst : Option Nat) (base : Nat) (wr : List Nat) (r : Res) : St :=
  { s with slots := putS s.slots dst r.v, heap := applyH s.heap base wr r }

theorem updL_get : ∀ (ns : List Nat) (bs : List (Option Blk)) (h : Nat → Option Blk) (m : Nat), ns.Nodup →
    (∃ (j : Nat) (b : Option Blk), ns[j]? = some m ∧ bs[j]? = some b ∧ updL h ns bs m = b) ∨ ((∀ (j : Nat) (b : Option Blk), ns[j]? = some m → bs[j]? = some b → False) ∧ updL h ns bs m = h m)
  | [], _, _, _, _ => .inr ⟨fun j b h => by simp at h, rfl⟩
  | n :: ns, [], h, m, _ => .inr ⟨fun j b _ h => by simp at h, rfl⟩
  | n :: ns, b :: bs, h, m, hn => by
    obtain ⟨h1, h2⟩ := List.nodup_cons.1 hn
    rcases updL_get ns bs (upd h n b) m h2 with ⟨j, c, e1, e2, e3⟩ | ⟨e1, e2⟩
    · exact .inl ⟨j + 1, c, by simpa using e1, by simpa using e2, e3⟩
    · by_cases hm : m = n
      · subst hm
        exact .inl ⟨0, b, rfl, rfl, by simp only [updL]; rw [e2]; simp [upd]⟩
      · refine .inr ⟨fun j c hj hc => ?_, by simp only [updL]; rw [e2]; simp [upd, hm]⟩
        cases j with
        | zero => simp at hj; exact hm hj.symm
        | succ j => exact e1 j c (by simpa using hj) (by simpa using hc)

theorem nodup_idx {α : Type} : ∀ {l : List α} {i j : Nat} {x : α}, l.Nodup → l[i]? = some x → l[j]? = some x → i = j
  | [], i, j, x, _, h, _ => by simp at h
  | a :: l, 0, 0, x, _, _, _ => rfl
  | a :: l, 0, j + 1, x, hn, h, k => by
    simp at h k
    subst h
    exact absurd (List.mem_of_getElem? k) (List.nodup_cons.1 hn).1
  | a :: l, i + 1, 0, x, hn, h, k => by
    simp at h k
    subst k
    exact absurd (List.mem_of_getElem? h) (List.nodup_cons.1 hn).1
  | a :: l, i + 1, j + 1, x, hn, h, k => by
    exact congrArg (· + 1) (nodup_idx (x := x) (List.nodup_cons.1 hn).2 (by simpa using h) (by simpa using k))

structure HeapM (μ : Mu) (h : Nat → Option Blk) (w : World) : Prop where
  ok : ∀ n b, h n = some b → ∃ l, μ n = some l ∧ b.ok μ w l
  apart : ∀ n m b c l k x, n ≠ m → h n = some b → h m = some c → μ n = some l → μ m = some k → b.excl w l x → ¬c.uses w k x

theorem heap_lt {w : World} {x : Nat} {o : Obj} (h : w.heap[x]? = some o) : x < w.heap.size := by
  rcases Nat.lt_or_ge x w.heap.size with h' | h'
  · exact h'
  · rw [Array.getElem?_eq_none h'] at h; cases h
theorem ownOk.lt {μ : Mu} {w : World} {l : Loc} {t : TypeId} {e n : Nat} {f : Nat → List SC} (hb : ownOk μ w l t e n f) (hno : Value.noRow l.hd = false) : l.b < w.heap.size := by
  obtain ⟨a, c, xs, h1, _, _, _, h5, _⟩ := hb
  have hc : 0 < c := by
    rcases Nat.eq_zero_or_pos c with h0 | h0
    · subst h0; rw [h1] at hno; cases hno
    · exact h0
  obtain ⟨_, cur, hcur, _⟩ := h5 hc
  exact heap_lt hcur
theorem objOk.lt {w : World} {l : Loc} {t : TypeId} {hd : List Int} {L : List Value} {x : Nat} (hb : objOk w l t hd L) (h : objFoot w l x) : x < w.heap.size := by
  obtain ⟨h0, a, c, h1, h2, h3, h4⟩ := hb
  rcases h with rfl | h
  · exact heap_lt h1
  · rw [h1] at h
    obtain ⟨b, rfl, hc, rfl⟩ := rowsOf_inv h
    obtain ⟨b', off, cur, tc, g1, g2, g3, g4, g5⟩ := h4 hc
    cases g1
    exact heap_lt g3
theorem Blk.uses_lt {μ : Mu} {w : World} {l : Loc} {b : Blk} {x : Nat} (hb : b.ok μ w l) (h : b.uses w l x) : x < w.heap.size := by
  cases b with
  | cells t cs =>
    obtain ⟨_, vs, hv, _⟩ := hb
    obtain rfl : l.b = x := h
    exact heap_lt hv
  | view e n f => obtain ⟨hn, rfl⟩ := h; exact hb.1 (by omega)
  | own t e n f => obtain ⟨hn, rfl⟩ := h; exact ownOk.lt hb hn
  | ints k L => obtain ⟨hn, rfl⟩ := h; exact hb.1 (by omega)
  | oints k L => obtain ⟨hn, rfl⟩ := h; obtain ⟨t, hb⟩ := hb; exact hb.lt hn
  | obj t hd L => exact objOk.lt hb h

/-- what an operation did to memory -/
structure Eff (μ μ' : Mu) (h : Nat → Option Blk) (w : World) (base : Nat) (wr : List Nat) (r : Res) (v : Value) (w' : World) : Prop where
  ext : Ext μ μ'
  dom : ∀ n l, μ' n = some l → μ n = some l ∨ n ∈ freshN base
  val : r.v.ok μ' v
  os : w'.os = w.os
  tape : w'.tape = w.tape
  output : w'.output = w.output
  size : w.heap.size ≤ w'.heap.size
  keep : ∀ x, x < w.heap.size → (∀ n b l, n ∈ wr → h n = some b → μ n = some l → ¬b.excl w l x) → w'.heap[x]? = w.heap[x]?
  wrs : wr.Nodup
  wsl : r.ws.length = wr.length
  nsl : r.ns.length ≤ 4
  olds : ∀ (j n : Nat) (b' : Blk), wr[j]? = some n → r.ws[j]? = some (some b') → ∃ b l, h n = some b ∧ μ n = some l ∧ b'.ok μ' w' l ∧ (∀ x, b'.uses w' l x → b.excl w l x ∨ (w.heap.size ≤ x ∧ wr = [n] ∧ r.ns = []))
  news : ∀ (j : Nat) (b : Blk), r.ns[j]? = some b → ∃ l, μ' (base + j) = some l ∧ b.ok μ' w' l ∧ ∀ x, b.uses w' l x → w.heap.size ≤ x ∨ (∃ (k n : Nat) (c : Blk) (m : Loc), wr[k]? = some n ∧ r.ws[k]? = some none ∧ h n = some c ∧ μ n = some m ∧ c.excl w m x)
  newsApart : ∀ (j k : Nat) (b c : Blk) (l m : Loc) (x : Nat), j ≠ k → r.ns[j]? = some b → r.ns[k]? = some c → μ' (base + j) = some l → μ' (base + k) = some m → b.excl w' l x → ¬c.uses w' m x

/-- an operation that touches no memory -/
theorem Eff.pure {μ : Mu} {h : Nat → Option Blk} {w : World} {base : Nat} {x : SV} {v : Value} (hv : x.ok μ v) : Eff μ μ h w base [] ⟨x, [], []⟩ v w :=
  { ext := Ext.refl μ, dom := fun _ _ h => .inl h, val := hv, os := rfl, tape := rfl, output := rfl, size := Nat.le_refl _, keep := fun _ _ _ => rfl, wrs := List.nodup_nil, wsl := rfl, nsl := by simp,
    olds := fun j n b' h => by simp at h, news := fun j b h => by simp at h, newsApart := fun j k b c l m x _ h => by simp at h }

theorem freshN_get {base m : Nat} {j : Nat} (h : (freshN base)[j]? = some m) : m = base + j ∧ j < 4 := by
  match j, h with
  | 0, h => simp [freshN] at h; omega
  | 1, h => simp [freshN] at h; omega
  | 2, h => simp [freshN] at h; omega
  | 3, h => simp [freshN] at h; omega
  | j + 4, h => simp [freshN] at h
theorem freshN_nodup (base : Nat) : (freshN base).Nodup := by simp [freshN]

/-- an entry of the heap behind an operation: a new one, or one that was there -/
theorem applyH_cases {μ μ' : Mu} {h : Nat → Option Blk} {w w' : World} {base : Nat} {wr : List Nat} {r : Res} {v : Value} (hm : HeapM μ h w) (hf : ∀ n ∈ freshN base, μ n = none)
    (he : Eff μ μ' h w base wr r v w') {n : Nat} {b : Blk} (hb : applyH h base wr r n = some b) :
    ∃ l, μ' n = some l ∧ b.ok μ' w' l ∧
      ((∃ (j : Nat), n = base + j ∧ r.ns[j]? = some b ∧ (∀ x, b.uses w' l x → w.heap.size ≤ x ∨ (∃ (k n : Nat) (c : Blk) (m : Loc), wr[k]? = some n ∧ r.ws[k]? = some none ∧ h n = some c ∧ μ n = some m ∧ c.excl w m x)))
       ∨ (∃ b0, h n = some b0 ∧ μ n = some l ∧ b0.ok μ w l ∧ (∀ x, b.uses w' l x → b0.uses w l x ∨ (w.heap.size ≤ x ∧ wr = [n] ∧ r.ns = [])) ∧ (∀ x, b.excl w' l x → b0.excl w l x ∨ (w.heap.size ≤ x ∧ wr = [n] ∧ r.ns = [])) ∧ ∀ (k : Nat), wr[k]? = some n → r.ws[k]? ≠ some none)) := by
  unfold applyH at hb
  rcases updL_get (freshN base) (r.ns.map some) (updL h wr r.ws) n (freshN_nodup base) with ⟨j, c, e1, e2, e3⟩ | ⟨e1, e2⟩
  · obtain ⟨rfl, hj⟩ := freshN_get e1
    rw [hb] at e3
    subst e3
    have hns : r.ns[j]? = some b := by simpa using e2
    obtain ⟨l, h1, h2, h3⟩ := he.news j b hns
    exact ⟨l, h1, h2, .inl ⟨j, rfl, hns, h3⟩⟩
  · rw [hb] at e2
    rcases updL_get wr r.ws h n he.wrs with ⟨j, c, f1, f2, f3⟩ | ⟨f1, f2⟩
    · rw [← e2] at f3
      subst f3
      obtain ⟨b0, l, h1, h2, h3, h4⟩ := he.olds j n b f1 f2
      obtain ⟨l', hl', hok⟩ := hm.ok n b0 h1
      rw [h2] at hl'
      cases hl'
      refine ⟨l, he.ext _ _ h2, h3, .inr ⟨b0, h1, h2, hok, fun x hx => (h4 x hx).imp Blk.uses_of_excl id, fun x hx => h4 x (Blk.uses_of_excl hx), fun k hk hn => ?_⟩⟩
      have hjk : j = k := nodup_idx he.wrs f1 hk
      subst hjk
      rw [f2] at hn
      cases hn
    · rw [f2] at e2
      obtain ⟨l, hl, hok⟩ := hm.ok n b e2.symm
      have hnw : n ∉ wr := fun hmem => by
        obtain ⟨j, hj⟩ := List.getElem?_of_mem hmem
        have hjl : j < wr.length := (List.getElem?_eq_some_iff.1 hj).1
        exact f1 j _ hj (List.getElem?_eq_getElem (by rw [he.wsl]; exact hjl))
      have hkeep : ∀ x, b.uses w l x → w'.heap[x]? = w.heap[x]? := fun x hx => he.keep x (Blk.uses_lt hok hx) fun m c k hmw hc hk hex => hm.apart m n c b k l x (fun e => hnw (e ▸ hmw)) hc e2.symm hk hl hex hx
      exact ⟨l, he.ext _ _ hl, Blk.ok_world (Blk.ok_ext he.ext hok) he.size hkeep, .inr ⟨b, e2.symm, hl, hok, fun x h => .inl ((Blk.uses_world hkeep x).1.1 h), fun x h => .inl ((Blk.uses_world hkeep x).2.1 h), fun k hk => absurd (List.mem_of_getElem? hk) hnw⟩⟩

theorem HeapM.apply {μ μ' : Mu} {h : Nat → Option Blk} {w w' : World} {base : Nat} {wr : List Nat} {r : Res} {v : Value} (hm : HeapM μ h w) (hf : ∀ n ∈ freshN base, μ n = none)
    (he : Eff μ μ' h w base wr r v w') : HeapM μ' (applyH h base wr r) w' := by
  refine ⟨fun n b hb => ?_, fun n m b c l k x hne hb hc hl hk hx hu => ?_⟩
  · obtain ⟨l, h1, h2, _⟩ := applyH_cases hm hf he hb
    exact ⟨l, h1, h2⟩
  · obtain ⟨l', h1, _, h2⟩ := applyH_cases hm hf he hb
    obtain ⟨k', g1, _, g2⟩ := applyH_cases hm hf he hc
    rw [hl] at h1; cases h1
    rw [hk] at g1; cases g1
    rcases h2 with ⟨j, rfl, hj, hj2⟩ | ⟨b0, hb0, hl0, hok0, hu0, hx0, hnc0⟩
    · rcases g2 with ⟨i, rfl, hi, hi2⟩ | ⟨c0, hc0, hk0, hok1, hu1, hx1, hnc1⟩
      · exact he.newsApart j i b c l k x (fun e => hne (by rw [e])) hj hi hl hk hx hu
      · rcases hu1 x hu with hcu | ⟨_, _, hns⟩
        · rcases hj2 x (Blk.uses_of_excl hx) with hge | ⟨p, pn, pc, pm, a1, a2, a3, a4, a5⟩
          · have := Blk.uses_lt hok1 hcu; omega
          · exact hm.apart pn m pc c0 pm k x (fun e => hnc1 p (e ▸ a1) a2) a3 hc0 a4 hk0 a5 hcu
        · rw [hns] at hj; simp at hj
    · rcases g2 with ⟨i, rfl, hi, hi2⟩ | ⟨c0, hc0, hk0, hok1, hu1, hx1, hnc1⟩
      · rcases hx0 x hx with hbx | ⟨_, _, hns⟩
        · rcases hi2 x hu with hge | ⟨p, pn, pc, pm, a1, a2, a3, a4, a5⟩
          · have := Blk.uses_lt hok0 (Blk.uses_of_excl hbx); omega
          · exact hm.apart pn n pc b0 pm l x (fun e => hnc0 p (e ▸ a1) a2) a3 hb0 a4 hl0 a5 (Blk.uses_of_excl hbx)
        · rw [hns] at hi; simp at hi
      · rcases hx0 x hx with hbx | ⟨hbx, hwn, _⟩
        · rcases hu1 x hu with hcu | ⟨hcu, _, _⟩
          · exact hm.apart n m b0 c0 l k x hne hb0 hc0 hl0 hk0 hbx hcu
          · have := Blk.uses_lt hok0 (Blk.uses_of_excl hbx); omega
        · rcases hu1 x hu with hcu | ⟨hcu, hwm, _⟩
          · have := Blk.uses_lt hok1 hcu; omega
          · rw [hwn] at hwm
            exact hne (by simpa using hwm)

/-- what a function leaves alone -/
structure Fr (w0 : World) (I : Nat → Prop) (w : World) : Prop where
  os : w.os = w0.os
  tape : w.tape = w0.tape
  output : w.output = w0.output
  size : w0.heap.size ≤ w.heap.size
  block : ∀ x, x < w0.heap.size → ¬ I x → w.heap[x]? = w0.heap[x]?

structure Models (w0 : World) (I : Nat → Prop) (μ : Mu) (s : St) (a : Act) (w : World) : Prop where
  size : a.tmps.size = s.slots.length
  slots : ∀ (i : Nat) (x : SV), s.slots[i]? = some x → ∃ v, a.tmps[i]? = some v ∧ x.ok μ v
  defers : a.defers = []
  hm : HeapM μ s.heap w
  mine : ∀ n b l x, s.heap n = some b → μ n = some l → b.excl w l x → I x ∨ w0.heap.size ≤ x
  fr : Fr w0 I w

theorem Models.apply {w0 : World} {I : Nat → Prop} {μ μ' : Mu} {s : St} {a : Act} {w w' : World} {base : Nat} {wr : List Nat} {r : Res} {v : Value} (dst : Option Nat) (hm : Models w0 I μ s a w)
    (hf : ∀ n ∈ freshN base, μ n = none) (he : Eff μ μ' s.heap w base wr r v w') : Models w0 I μ' (s.apply dst base wr r) (a.put dst v) w' where
  size := by
    cases dst with
    | none => exact hm.size
    | some d => simpa [St.apply, putS, Act.put] using hm.size
  slots := fun i x hx => by
    cases dst with
    | none =>
      obtain ⟨u, hu, hok⟩ := hm.slots i x hx
      exact ⟨u, hu, SV.ok_ext he.ext hok⟩
    | some d =>
      simp only [St.apply, putS] at hx
      by_cases hd : d = i
      · subst hd
        have hlt : d < s.slots.length := by
          have := (List.getElem?_eq_some_iff.1 hx).1
          simpa using this
        simp [hlt] at hx
        subst hx
        exact ⟨v, by simp [Act.put, hm.size, hlt], he.val⟩
      · rw [List.getElem?_set_ne hd] at hx
        obtain ⟨u, hu, hok⟩ := hm.slots i x hx
        exact ⟨u, by simp [Act.put, Array.getElem?_setIfInBounds_ne hd, hu], SV.ok_ext he.ext hok⟩
  defers := by cases dst <;> exact hm.defers
  hm := hm.hm.apply hf he
  mine := fun n b l x hb hl hx => by
    obtain ⟨l', h1, _, h2⟩ := applyH_cases hm.hm hf he hb
    rw [hl] at h1; cases h1
    rcases h2 with ⟨j, rfl, hj, hj2⟩ | ⟨b0, hb0, hl0, hok0, hu0, hx0, hnc0⟩
    · rcases hj2 x (Blk.uses_of_excl hx) with hge | ⟨p, pn, pc, pm, a1, a2, a3, a4, a5⟩
      · exact .inr (Nat.le_trans hm.fr.size hge)
      · exact hm.mine pn pc pm x a3 a4 a5
    · rcases hx0 x hx with h | ⟨h, _, _⟩
      · exact hm.mine n b0 l x hb0 hl0 h
      · exact .inr (Nat.le_trans hm.fr.size h)
  fr :=
    { os := he.os.trans hm.fr.os, tape := he.tape.trans hm.fr.tape, output := he.output.trans hm.fr.output, size := Nat.le_trans hm.fr.size he.size
      block := fun x hx hi => by
        refine (he.keep x (Nat.lt_of_lt_of_le hx hm.fr.size) fun n b l _ hb hl hex => ?_).trans (hm.fr.block x hx hi)
        rcases hm.mine n b l x hb hl hex with h | h
        · exact hi h
        · omega }
/-! ### states written out: the same, but the kernel has nothing to reckon twice -/
def fN (n : Nat) (K : Nat → Prop) : Prop :=
  match n with
  | 0 => K 0
  | m + 1 => K (m + 1)
def fI (n : Int) (K : Int → Prop) : Prop :=
  match n with
  | .ofNat m => fN m fun m => K (.ofNat m)
  | .negSucc m => fN m fun m => K (.negSucc m)
def fKd (k : IntKind) (K : IntKind → Prop) : Prop :=
  match k with
  | .i8 => K .i8
  | .i16 => K .i16
  | .i32 => K .i32
  | .i64 => K .i64
  | .u8 => K .u8
  | .u16 => K .u16
  | .u32 => K .u32
  | .u64 => K .u64
def fBo (b : Bool) (K : Bool → Prop) : Prop :=
  match b with
  | true => K true
  | false => K false
def fC (c : SC) (K : SC → Prop) : Prop :=
  match c with
  | .num k n => fKd k fun k => fI n fun n => K (.num k n)
  | .int k n => fKd k fun k => K (.int k n)
  | .tru b => fBo b fun b => K (.tru b)
  | .boo b => K (.boo b)
  | .str z => K (.str z)
  | .nil => K .nil
  | .ptr b i e j => fN b fun b => fN e fun e => K (.ptr b i e j)
  | .sli b i e j n c q => fN b fun b => fN e fun e => fBo q fun q => K (.sli b i e j n c q)
  | .own b n c q => fN b fun b => fBo q fun q => K (.own b n c q)
  | .nos => K .nos
  | .fn f => K (.fn f)
def fL : List SC → (List SC → Prop) → Prop
  | [], K => K []
  | c :: cs, K => fC c fun c => fL cs fun cs => K (c :: cs)
def fS1 (x : S1) (K : S1 → Prop) : Prop :=
  match x with
  | .c x => fC x fun x => K (.c x)
  | .a cs => fL cs fun cs => K (.a cs)
def fT : List S1 → (List S1 → Prop) → Prop
  | [], K => K []
  | c :: cs, K => fS1 c fun c => fT cs fun cs => K (c :: cs)
def fV (x : SV) (K : SV → Prop) : Prop :=
  match x with
  | .s x => fS1 x fun x => K (.s x)
  | .t xs => fT xs fun xs => K (.t xs)
  | .u => K .u
def fVs : List SV → (List SV → Prop) → Prop
  | [], K => K []
  | c :: cs, K => fV c fun c => fVs cs fun cs => K (c :: cs)
/-- a list whose elements are written out already -/
def fSp : List SV → (List SV → Prop) → Prop
  | [], K => K []
  | c :: cs, K => fSp cs fun cs => K (c :: cs)
def fSi : List Int → (List Int → Prop) → Prop
  | [], K => K []
  | c :: cs, K => fSi cs fun cs => K (c :: cs)
def fOL (l : OL) (K : OL → Prop) : Prop :=
  match l with
  | .ints k l => fKd k fun k => K (.ints k l)
  | .strs l => K (.strs l)
  | .raws l => K (.raws l)
def fBk (b : Blk) (K : Blk → Prop) : Prop :=
  match b with
  | .obj t hd l => fN t fun t => fSi hd fun hd => fOL l fun l => K (.obj t hd l)
  | .cells t cs => fN t fun t => fL cs fun cs => K (.cells t cs)
  | .view e n f => fN e fun e => K (.view e n f)
  | .own t e n f => fN t fun t => fN e fun e => K (.own t e n f)
  | .ints k l => fKd k fun k => K (.ints k l)
  | .oints k l => fKd k fun k => K (.oints k l)
def fBO (b : Option Blk) (K : Option Blk → Prop) : Prop :=
  match b with
  | none => K none
  | some b => fBk b fun b => K (some b)
def fBs : List Blk → (List Blk → Prop) → Prop
  | [], K => K []
  | c :: cs, K => fBk c fun c => fBs cs fun cs => K (c :: cs)
def fBOs : List (Option Blk) → (List (Option Blk) → Prop) → Prop
  | [], K => K []
  | c :: cs, K => fBO c fun c => fBOs cs fun cs => K (c :: cs)
def fNs : List Nat → (List Nat → Prop) → Prop
  | [], K => K []
  | c :: cs, K => fN c fun c => fNs cs fun cs => K (c :: cs)
theorem fN_eq (n : Nat) (K : Nat → Prop) : fN n K = K n := by cases n <;> rfl
theorem fI_eq (n : Int) (K : Int → Prop) : fI n K = K n := by cases n <;> simp only [fI, fN_eq]
theorem fKd_eq (k : IntKind) (K : IntKind → Prop) : fKd k K = K k := by cases k <;> rfl
theorem fBo_eq (b : Bool) (K : Bool → Prop) : fBo b K = K b := by cases b <;> rfl
theorem fC_eq (c : SC) (K : SC → Prop) : fC c K = K c := by cases c <;> simp only [fC, fKd_eq, fI_eq, fBo_eq, fN_eq]
theorem fL_eq : ∀ (cs : List SC) (K : List SC → Prop), fL cs K = K cs
  | [], _ => rfl
  | c :: cs, K => by simp only [fL, fC_eq, fL_eq cs]
theorem fS1_eq (x : S1) (K : S1 → Prop) : fS1 x K = K x := by cases x <;> simp only [fS1, fC_eq, fL_eq]
theorem fT_eq : ∀ (cs : List S1) (K : List S1 → Prop), fT cs K = K cs
  | [], _ => rfl
  | c :: cs, K => by simp only [fT, fS1_eq, fT_eq cs]
theorem fV_eq (x : SV) (K : SV → Prop) : fV x K = K x := by cases x <;> simp only [fV, fS1_eq, fT_eq]
theorem fVs_eq : ∀ (cs : List SV) (K : List SV → Prop), fVs cs K = K cs
  | [], _ => rfl
  | c :: cs, K => by simp only [fVs, fV_eq, fVs_eq cs]
theorem fSp_eq : ∀ (cs : List SV) (K : List SV → Prop), fSp cs K = K cs
  | [], _ => rfl
  | c :: cs, K => by simp only [fSp, fSp_eq cs]
theorem fSi_eq : ∀ (cs : List Int) (K : List Int → Prop), fSi cs K = K cs
  | [], _ => rfl
  | c :: cs, K => by simp only [fSi, fSi_eq cs]
theorem fOL_eq (l : OL) (K : OL → Prop) : fOL l K = K l := by cases l <;> simp only [fOL, fKd_eq]
theorem fBk_eq (b : Blk) (K : Blk → Prop) : fBk b K = K b := by cases b <;> simp only [fBk, fN_eq, fL_eq, fKd_eq, fSi_eq, fOL_eq]
theorem fBO_eq (b : Option Blk) (K : Option Blk → Prop) : fBO b K = K b := by cases b <;> simp only [fBO, fBk_eq]
theorem fBs_eq : ∀ (cs : List Blk) (K : List Blk → Prop), fBs cs K = K cs
  | [], _ => rfl
  | c :: cs, K => by simp only [fBs, fBk_eq, fBs_eq cs]
theorem fBOs_eq : ∀ (cs : List (Option Blk)) (K : List (Option Blk) → Prop), fBOs cs K = K cs
  | [], _ => rfl
  | c :: cs, K => by simp only [fBOs, fBO_eq, fBOs_eq cs]
theorem fNs_eq : ∀ (cs : List Nat) (K : List Nat → Prop), fNs cs K = K cs
  | [], _ => rfl
  | c :: cs, K => by simp only [fNs, fN_eq, fNs_eq cs]
def updK : (Nat → Option Blk) → List Nat → List (Option Blk) → ((Nat → Option Blk) → Prop) → Prop
  | h, n :: ns, b :: bs, K => updK (upd h n b) ns bs K
  | h, _, _, K => K h
theorem updK_eq : ∀ (ns : List Nat) (bs : List (Option Blk)) (h : Nat → Option Blk) (K : (Nat → Option Blk) → Prop), updK h ns bs K = K (updL h ns bs)
  | [], _, _, _ => rfl
  | n :: ns, [], _, _ => rfl
  | n :: ns, b :: bs, h, K => by simp only [updK, updL, updK_eq ns bs]
def someL : List Blk → List (Option Blk)
  | [] => []
  | b :: bs => some b :: someL bs
theorem someL_eq : ∀ bs : List Blk, someL bs = bs.map some
  | [] => rfl
  | b :: bs => by simp only [someL, List.map_cons, someL_eq bs]
def St.applyK (s : St) (dst : Option Nat) (base : Nat) (wr : List Nat) (r : Res) (K : St → Prop) : Prop :=
  fV r.v fun v => fSp (putS s.slots dst v) fun sl => fNs wr fun wr => fBOs r.ws fun ws => fBs r.ns fun ns =>
    updK s.heap wr ws fun h => fNs (freshN base) fun fr => updK h fr (someL ns) fun h => K ⟨sl, h, s.next⟩
theorem St.applyK_eq (s : St) (dst : Option Nat) (base : Nat) (wr : List Nat) (r : Res) (K : St → Prop) : s.applyK dst base wr r K = K (s.apply dst base wr r) := by
  simp only [St.applyK, fV_eq, fSp_eq, fNs_eq, fBOs_eq, fBs_eq, updK_eq, someL_eq]
  rfl
def only (names : List Nat) (h : Nat → Option Blk) : Nat → Option Blk := fun n => if names.contains n then h n else none
/-- the blocks of some names, written out -/
def fH (h : Nat → Option Blk) : List Nat → ((Nat → Option Blk) → Prop) → Prop
  | [], K => K fun _ => none
  | n :: ns, K => fN n fun n => fBO (h n) fun b => fH h ns fun g => K (upd g n b)
theorem fH_eq (h : Nat → Option Blk) : ∀ (ns : List Nat) (K : (Nat → Option Blk) → Prop), fH h ns K = K (only ns h)
  | [], K => by
    simp only [fH]
    congr 1
  | n :: ns, K => by
    simp only [fH, fN_eq, fBO_eq, fH_eq h ns]
    congr 1
    funext m
    by_cases hm : m = n
    · subst hm; simp [upd, only]
    · simp [upd, only, hm]
end Go.Proofs.Ytcaipfdnadlkdaa.Sx

namespace Go.Proofs.Ytcaipfdnadlkdaa.Sx
open Go
set_option linter.unusedVariables false
set_option linter.unusedSimpArgs false

def SV.int? : SV → Option (IntKind × Int × Bool)
  | .s (.c (.num k n)) => some (k, n, true)
  | .s (.c (.int k n)) => some (k, n, false)
  | _ => none
def SV.bool? : SV → Option (Bool × Bool)
  | .s (.c (.tru b)) => some (b, true)
  | .s (.c (.boo b)) => some (b, false)
  | _ => none
def SV.str? : SV → Option ByteArray
  | .s (.c (.str z)) => some z
  | _ => none
/-- of a pointer: is it one? -/
def SV.ptr? : SV → Option Bool
  | .s (.c .nil) => some false
  | .s (.c (.ptr _ _ _ _)) => some true
  | _ => none
def SV.agg? : SV → Option (List SC)
  | .s (.a cs) => some cs
  | _ => none
section
variable {μ : Mu} {x : SV} {v : Value}
theorem SV.int_ok {k : IntKind} {n : Int} {c : Bool} (h : x.int? = some (k, n, c)) (hx : x.ok μ v) : v = .int k n := by
  unfold SV.int? at h
  split at h <;> simp at h
  · obtain ⟨rfl, rfl, _⟩ := h; exact hx
  · obtain ⟨rfl, rfl, _⟩ := h; exact hx
theorem SV.bool_ok {b c : Bool} (h : x.bool? = some (b, c)) (hx : x.ok μ v) : v = .bool b := by
  unfold SV.bool? at h
  split at h <;> simp at h
  · obtain ⟨rfl, _⟩ := h; exact hx
  · obtain ⟨rfl, _⟩ := h; exact hx
theorem SV.str_ok {s : ByteArray} (h : x.str? = some s) (hx : x.ok μ v) : v = .string s := by
  unfold SV.str? at h
  split at h <;> simp at h
  subst h
  exact hx
theorem SV.agg_ok {cs : List SC} (h : x.agg? = some cs) (hx : x.ok μ v) : ∃ vs : List Value, v = .agg vs.toArray ∧ All2 (SC.ok μ) cs vs := by
  unfold SV.agg? at h
  split at h <;> simp at h
  subst h
  exact hx
theorem SV.ptr_ok {b : Bool} (h : x.ptr? = some b) (hx : x.ok μ v) : if b then ∃ a, v = .pointer (some a) else v = .pointer none := by
  unfold SV.ptr? at h
  split at h <;> simp at h
  · subst h; exact hx
  · subst h; obtain ⟨l, _, hv⟩ := hx; exact ⟨_, hv⟩
end

def one (c : SC) : SV := .s (.c c)
theorem okT {μ : Mu} {r : Bool} (h : r = true) : (one (.tru true)).ok μ (.bool r) := by subst h; rfl
theorem okF {μ : Mu} {r : Bool} (h : r = false) : (one (.tru false)).ok μ (.bool r) := by subst h; rfl
def oT : Out SV := .ret (one (.tru true))
def oF : Out SV := .ret (one (.tru false))
def mkI (k : IntKind) (c : Bool) (n : Int) : Out SV := if c then .ret (one (.num k n)) else .eqn n fun x => .ret (one (.int k x))
theorem mkI_ok {μ : Mu} {K : SV → Prop} {k : IntKind} {c : Bool} {n : Int} (h : (mkI k c n).wp K) : ∃ sv, K sv ∧ sv.ok μ (.int k n) := by
  cases c
  · exact ⟨_, h n rfl, rfl⟩
  · exact ⟨_, h, rfl⟩

def arith (op : BinOp) (k : IntKind) (a b : Int) : Option Int :=
  match op with
  | .add => some (k.wrap (a + b))
  | .sub => some (k.wrap (a - b))
  | .mul => some (k.wrap (a * b))
  | .and => some (bits .and k a b)
  | .or => some (bits .or k a b)
  | .xor => some (bits .xor k a b)
  | .andNot => some (bits .andNot k a b)
  | _ => none
def cmpB (op : BinOp) (a b : Int) : Option Bool :=
  match op with
  | .lss => some (decide (a < b))
  | .leq => some (decide (a ≤ b))
  | .gtr => some (decide (b < a))
  | .geq => some (decide (b ≤ a))
  | .eql => some (a == b)
  | .neq => some (a != b)
  | _ => none
def cmpO (op : BinOp) (a b : Int) : Option (Out SV) :=
  match op with
  | .lss => some (.br (a < b) oT oF)
  | .leq => some (.br (a ≤ b) oT oF)
  | .gtr => some (.br (b < a) oT oF)
  | .geq => some (.br (b ≤ a) oT oF)
  | .eql => some (.br (a = b) oT oF)
  | .neq => some (.br (a = b) oF oT)
  | _ => none
/-- a claim that is reckoned where all is written out -/
def need (c : Bool) (p : Prop) [Decidable p] (o : Out SV) : Out SV := if c then (if p then o else .fail) else .ast p o
theorem need_ok {K : SV → Prop} {c : Bool} {p : Prop} [Decidable p] {o : Out SV} (h : (need c p o).wp K) : p ∧ o.wp K := by
  cases c
  · exact ⟨h.1.h, h.2⟩
  · simp only [need, if_true] at h
    split at h
    · exact ⟨by assumption, h⟩
    · exact h.elim
def intOut (op : BinOp) (k k' : IntKind) (a b : Int) (ca cb : Bool) : Out SV :=
  match op with
  | .shl => need cb (0 ≤ b) (mkI k (ca && cb) (k.wrap (a * 2 ^ min b.toNat k.bits)))
  | .shr => need cb (0 ≤ b) (mkI k (ca && cb) (a / 2 ^ min b.toNat k.bits))
  | .quo => if k = k' then need cb (b ≠ 0) (mkI k (ca && cb) (k.wrap (a.tdiv b))) else .fail
  | .rem => if k = k' then need cb (b ≠ 0) (mkI k (ca && cb) (a.tmod b)) else .fail
  | op => if k = k' then
      match arith op k a b with
      | some n => mkI k (ca && cb) n
      | none => if ca && cb then (match cmpB op a b with | some r => .ret (one (.tru r)) | none => .fail) else (match cmpO op a b with | some o => o | none => .fail)
    else .fail

theorem cmp_ok {μ : Mu} {K : SV → Prop} {op : BinOp} {a b : Int} {o : Out SV} (ho : cmpO op a b = some o) (h : o.wp K) : ∃ r sv, cmpB op a b = some r ∧ K sv ∧ sv.ok μ (.bool r) := by
  cases op <;> simp [cmpO] at ho <;> subst ho <;> obtain ⟨h1, h2⟩ := h
  · by_cases c : a = b
    · exact ⟨_, _, rfl, h1 c, okT (by simp [c])⟩
    · exact ⟨_, _, rfl, h2 c, okF (by simp [c])⟩
  · by_cases c : a = b
    · exact ⟨_, _, rfl, h1 c, okF (by simp [c])⟩
    · exact ⟨_, _, rfl, h2 c, okT (by simp [c])⟩
  · by_cases c : a < b
    · exact ⟨_, _, rfl, h1 c, okT (by simp [c])⟩
    · exact ⟨_, _, rfl, h2 c, okF (by simpa using c)⟩
  · by_cases c : a ≤ b
    · exact ⟨_, _, rfl, h1 c, okT (by simp [c])⟩
    · exact ⟨_, _, rfl, h2 c, okF (by simpa using c)⟩
  · by_cases c : b < a
    · exact ⟨_, _, rfl, h1 c, okT (by simp [c])⟩
    · exact ⟨_, _, rfl, h2 c, okF (by simpa using c)⟩
  · by_cases c : b ≤ a
    · exact ⟨_, _, rfl, h1 c, okT (by simp [c])⟩
    · exact ⟨_, _, rfl, h2 c, okF (by simpa using c)⟩

theorem bin_arith {P : Program} {w : World} {op : BinOp} {t : TypeId} {k : IntKind} {a b n : Int} (h : arith op k a b = some n) : (binOp op t (.int k a) (.int k b)).run P w = .ok (.int k n) w := by
  cases op <;> simp [arith] at h <;> subst h <;> simp [binOp, Op.intArith] <;> rfl
theorem bin_cmp {P : Program} {w : World} {op : BinOp} {t : TypeId} {k : IntKind} {a b : Int} {r : Bool} (h : cmpB op a b = some r) : (binOp op t (.int k a) (.int k b)).run P w = .ok (.bool r) w := by
  cases op <;> simp [cmpB] at h <;> subst h <;> simp [binOp, Op.intCmp]
theorem fdiv_pow (a : Int) (n : Nat) : a.fdiv (2 ^ n) = a / 2 ^ n := Int.fdiv_eq_ediv_of_nonneg _ (Int.pow_nonneg (by decide))

theorem int_out_ok {μ : Mu} {P : Program} {w : World} {K : SV → Prop} {op : BinOp} {t : TypeId} {k k' : IntKind} {a b : Int} {ca cb : Bool} (h : (intOut op k k' a b ca cb).wp K) :
    ∃ z sv, (binOp op t (.int k a) (.int k' b)).run P w = .ok z w ∧ K sv ∧ sv.ok μ z := by
  have gen : (op ≠ .shl ∧ op ≠ .shr ∧ op ≠ .quo ∧ op ≠ .rem) → intOut op k k' a b ca cb = (if k = k' then
      match arith op k a b with
      | some n => mkI k (ca && cb) n
      | none => if ca && cb then (match cmpB op a b with | some r => .ret (one (.tru r)) | none => .fail) else (match cmpO op a b with | some o => o | none => .fail)
    else .fail) := by
    rintro ⟨h1, h2, h3, h4⟩
    cases op <;> simp_all [intOut]
  by_cases h1 : op = .shl
  · subst h1
    obtain ⟨h0, hk⟩ := need_ok h
    obtain ⟨sv, h2, h3⟩ := mkI_ok (μ := μ) hk
    refine ⟨_, sv, ?_, h2, h3⟩
    have hn : ¬ b < 0 := by omega
    simp [binOp, Op.shift, hn]
  by_cases h2 : op = .shr
  · subst h2
    obtain ⟨h0, hk⟩ := need_ok h
    obtain ⟨sv, h2, h3⟩ := mkI_ok (μ := μ) hk
    refine ⟨_, sv, ?_, h2, h3⟩
    have hn : ¬ b < 0 := by omega
    simp [binOp, Op.shift, hn, fdiv_pow]
  by_cases h3 : op = .quo
  · subst h3
    simp only [intOut] at h
    split at h
    · rename_i hk; subst hk
      obtain ⟨h0, hk⟩ := need_ok h
      obtain ⟨sv, h2, h3⟩ := mkI_ok (μ := μ) hk
      exact ⟨_, sv, by simp [binOp, Op.intDiv, h0], h2, h3⟩
    · exact h.elim
  by_cases h4 : op = .rem
  · subst h4
    simp only [intOut] at h
    split at h
    · rename_i hk; subst hk
      obtain ⟨h0, hk⟩ := need_ok h
      obtain ⟨sv, h2, h3⟩ := mkI_ok (μ := μ) hk
      exact ⟨_, sv, by simp [binOp, Op.intDiv, h0], h2, h3⟩
    · exact h.elim
  rw [gen ⟨h1, h2, h3, h4⟩] at h
  split at h
  · rename_i hk; subst hk
    split at h
    · rename_i n hn
      obtain ⟨sv, h5, h6⟩ := mkI_ok (μ := μ) h
      exact ⟨_, sv, bin_arith hn, h5, h6⟩
    · split at h
      · split at h
        · rename_i r hr
          exact ⟨_, _, bin_cmp hr, h, rfl⟩
        · exact h.elim
      · split at h
        · rename_i o ho
          obtain ⟨r, sv, h5, h6, h7⟩ := cmp_ok (μ := μ) ho h
          exact ⟨_, sv, bin_cmp h5, h6, h7⟩
        · exact h.elim
  · exact h.elim

/-- two Booleans -/
def boolOut (op : BinOp) (a b : Bool) (c : Bool) : Out SV :=
  match op with
  | .eql => if c then .ret (one (.tru (a == b))) else .br (a = b) oT oF
  | .neq => if c then .ret (one (.tru (a != b))) else .br (a = b) oF oT
  | _ => .fail
theorem bool_out_ok {μ : Mu} {P : Program} {w : World} {K : SV → Prop} {op : BinOp} {t : TypeId} {a b c : Bool} (hu : P.underlying t = some .bool) (h : (boolOut op a b c).wp K) :
    ∃ z sv, (binOp op t (.bool a) (.bool b)).run P w = .ok z w ∧ K sv ∧ sv.ok μ z := by
  have hd : ∀ d : Nat, (Op.equalIn (d + 1) t (.bool a) (.bool b)).run P w = .ok (a == b) w := fun d => by simp [Op.equalIn, run_underlying hu]
  have he : (Op.equal t (.bool a) (.bool b)).run P w = .ok (a == b) w := hd 9999
  cases op <;> simp only [boolOut] at h <;> try exact h.elim
  · refine ⟨.bool (a == b), ?_⟩
    have hr : (binOp .eql t (.bool a) (.bool b)).run P w = .ok (.bool (a == b)) w := by simp [binOp, he]
    cases c
    · obtain ⟨h1, h2⟩ := h
      by_cases hc : a = b
      · exact ⟨_, hr, h1 hc, okT (by simp [hc])⟩
      · exact ⟨_, hr, h2 hc, okF (by simp [hc])⟩
    · exact ⟨_, hr, h, rfl⟩
  · refine ⟨.bool (a != b), ?_⟩
    have hr : (binOp .neq t (.bool a) (.bool b)).run P w = .ok (.bool (a != b)) w := by simp [binOp, he, bne]
    cases c
    · obtain ⟨h1, h2⟩ := h
      by_cases hc : a = b
      · exact ⟨_, hr, h1 hc, okF (by simp [hc])⟩
      · exact ⟨_, hr, h2 hc, okT (by simp [hc])⟩
    · exact ⟨_, hr, h, rfl⟩

/-- a pointer against nil -/
def ptrOut (op : BinOp) (a b : Bool) : Out SV :=
  if a && b then .fail else
  match op with
  | .eql => .ret (one (.tru (!a && !b)))
  | .neq => .ret (one (.tru (a || b)))
  | _ => .fail
theorem ptr_out_ok {μ : Mu} {P : Program} {w : World} {K : SV → Prop} {op : BinOp} {t e : TypeId} {a b : Bool} {u v : Value} (hu : P.underlying t = some (.pointer e))
    (ha : if a then ∃ p, u = .pointer (some p) else u = .pointer none) (hb : if b then ∃ p, v = .pointer (some p) else v = .pointer none) (h : (ptrOut op a b).wp K) :
    ∃ z sv, (binOp op t u v).run P w = .ok z w ∧ K sv ∧ sv.ok μ z := by
  have hab : (a && b) = false := by
    cases hx : (a && b)
    · rfl
    · simp [ptrOut, hx] at h; exact h.elim
  have hd : ∀ d : Nat, (Op.equalIn (d + 1) t u v).run P w = .ok (!a && !b) w := fun d => by
    cases a <;> cases b <;> simp at hab ha hb
    · subst ha; subst hb; simp [Op.equalIn, run_underlying hu]
    · obtain ⟨p, rfl⟩ := hb; subst ha; simp [Op.equalIn, run_underlying hu]
    · obtain ⟨p, rfl⟩ := ha; subst hb; simp [Op.equalIn, run_underlying hu]
  have he : (Op.equal t u v).run P w = .ok (!a && !b) w := hd 9999
  have hsh : ∃ p q, u = .pointer p ∧ v = .pointer q := by
    cases a <;> cases b <;> simp at ha hb
    · exact ⟨_, _, ha, hb⟩
    · obtain ⟨p, rfl⟩ := hb; exact ⟨_, _, ha, rfl⟩
    · obtain ⟨p, rfl⟩ := ha; exact ⟨_, _, rfl, hb⟩
    · obtain ⟨p, rfl⟩ := hb; obtain ⟨q, rfl⟩ := ha; exact ⟨_, _, rfl, rfl⟩
  obtain ⟨p, q, rfl, rfl⟩ := hsh
  simp only [ptrOut, hab, Bool.false_eq_true, if_false] at h
  cases op <;> simp only [] at h <;> try exact h.elim
  · exact ⟨.bool (!a && !b), _, by simp [binOp, he], h, rfl⟩
  · exact ⟨.bool (a || b), _, by simp [binOp, he, Bool.not_and], h, rfl⟩

/-- two strings -/
def strOut (op : BinOp) (a b : ByteArray) : Out SV :=
  match op with
  | .eql => .br (a = b) oT oF
  | .neq => .br (a = b) oF oT
  | .add => .eqn (a ++ b) fun x => .ret (one (.str x))
  | _ => .fail

def unOut (op : UnOp) (x : SV) : Out SV :=
  match op with
  | .not => match x.bool? with
    | some (b, true) => .ret (one (.tru (!b)))
    | some (b, false) => .ret (one (.boo (!b)))
    | none => .fail
  | .neg => match x.int? with
    | some (k, n, c) => mkI k c (k.wrap (0 - n))
    | none => .fail
  | .xor => match x.int? with
    | some (k, n, c) => mkI k c (bits .xor k (if k.signed then -1 else k.max) n)
    | none => .fail
  | _ => .fail
theorem un_ok {μ : Mu} {P : Program} {w : World} {K : SV → Prop} {op : UnOp} {x : SV} {u : Value} (hx : x.ok μ u) (h : (unOut op x).wp K) :
    ∃ z sv, (Op.unary op u).run P w = .ok z w ∧ K sv ∧ sv.ok μ z := by
  cases op <;> simp only [unOut] at h <;> try exact h.elim
  · split at h
    · rename_i k n c hi
      have := SV.int_ok hi hx
      subst this
      obtain ⟨sv, h1, h2⟩ := mkI_ok (μ := μ) h
      exact ⟨_, sv, by simp [Op.unary, Op.intArith], h1, h2⟩
    · exact h.elim
  · split at h
    · rename_i k n c hi
      have := SV.int_ok hi hx
      subst this
      obtain ⟨sv, h1, h2⟩ := mkI_ok (μ := μ) h
      exact ⟨_, sv, by simp only [Op.unary, intBits_xor]; rfl, h1, h2⟩
    · exact h.elim
  · split at h
    · rename_i b hb
      have := SV.bool_ok hb hx
      subst this
      exact ⟨_, _, by simp [Op.unary], h, rfl⟩
    · rename_i b hb
      have := SV.bool_ok hb hx
      subst this
      exact ⟨_, _, by simp [Op.unary], h, rfl⟩
    · exact h.elim

/-- a conversion between integers -/
def convOut (P : Program) (src dst : TypeId) (x : SV) : Out SV :=
  match x.int?, P.underlying src, P.underlying dst with
  | some (_, n, c), some _, some (.int k) => mkI k c (k.wrap n)
  | _, _, _ => .fail
theorem conv_ok {μ : Mu} {P : Program} {w : World} {K : SV → Prop} {src dst : TypeId} {x : SV} {u : Value} (hx : x.ok μ u) (h : (convOut P src dst x).wp K) :
    ∃ z sv, (convert src dst u).run P w = .ok z w ∧ K sv ∧ sv.ok μ z := by
  unfold convOut at h
  split at h
  · rename_i k n c d k' hi hs hd
    have := SV.int_ok hi hx
    subst this
    obtain ⟨sv, h1, h2⟩ := mkI_ok (μ := μ) h
    exact ⟨_, sv, by simp [convert, run_underlying hs, run_underlying hd, Conv.intToInt], h1, h2⟩
  · exact h.elim
end Go.Proofs.Ytcaipfdnadlkdaa.Sx

namespace Go.Proofs.Ytcaipfdnadlkdaa.Sx
open Go
set_option linter.unusedVariables false
set_option linter.unusedSimpArgs false

structure Req where
  rd : List Nat
  wr : List Nat
  act : List (Option Blk) → Out Res
def Req.pure (o : Out SV) : Req := ⟨[], [], fun _ => o.bind fun v => .ret ⟨v, [], []⟩⟩
def Req.fail : Req := ⟨[], [], fun _ => .fail⟩
def Req.pre (r : Req) (h : Nat → Option Blk) (K : Res → Prop) : Prop := (r.act ((r.rd ++ r.wr).map h)).wp K

/-- the request tells what the model does -/
def Snd (P : Program) (μ : Mu) (h : Nat → Option Blk) (w : World) (base : Nat) (r : Req) (x : Sem Value) : Prop :=
  ∀ K, r.pre h K → ∃ v w' μ' res, x.run P w = .ok v w' ∧ K res ∧ Eff μ μ' h w base r.wr res v w'
theorem Snd.pure {P : Program} {μ : Mu} {h : Nat → Option Blk} {w : World} {base : Nat} {o : Out SV} {x : Sem Value}
    (hx : ∀ K : SV → Prop, o.wp K → ∃ z sv, x.run P w = .ok z w ∧ K sv ∧ sv.ok μ z) : Snd P μ h w base (Req.pure o) x := fun K hk => by
  obtain ⟨z, sv, h1, h2, h3⟩ := hx _ (Out.wp_bind.1 hk)
  exact ⟨z, w, μ, _, h1, h2, Eff.pure h3⟩
theorem Snd.fail {P : Program} {μ : Mu} {h : Nat → Option Blk} {w : World} {base : Nat} {x : Sem Value} : Snd P μ h w base Req.fail x := fun K hk => hk.elim

/-- does a type stand for several cells? -/
def agD : TypeDesc → Bool
  | .struct _ => true
  | .array _ _ => true
  | _ => false
theorem run_isAgg {P : Program} {t : TypeId} {d : TypeDesc} (h : P.underlying t = some d) (w : World) : (isAgg t).run P w = .ok (agD d) w := by
  unfold isAgg
  simp only [Sem.run_bind, run_underlying h, Result.andThen_ok]
  cases d <;> rfl
theorem run_sizeOf' {P : Program} {t : TypeId} {i : TypeInfo} (h : P.info? t = some i) (w : World) : (Go.sizeOf t).run P w = .ok i.size w := by
  simp [Go.sizeOf, typeInfo, h]

def oAst (p : Option Prop) (o : Out Res) : Out Res :=
  match p with
  | some p => .ast p o
  | none => o
def holds (p : Option Prop) : Prop :=
  match p with
  | some p => p
  | none => True
theorem oAst_ok {p : Option Prop} {o : Out Res} {K : Res → Prop} (h : (oAst p o).wp K) : holds p ∧ o.wp K := by
  cases p with
  | none => exact ⟨trivial, h⟩
  | some p => exact ⟨h.1.h, h.2⟩
def blkGet (k : Blk) (i e j sz : Nat) : Option (Option Prop × List SC) :=
  match k with
  | .cells _ cs => if e == 0 && decide (j + sz ≤ cs.length) then some (none, (cs.drop j).take sz) else none
  | .view e' n f => if e == e' && decide (j + sz ≤ e) then some (some (i < n), ((f i).drop j).take sz) else none
  | .own _ e' n f => if e == e' && decide (j + sz ≤ e) then some (some (i < n), ((f i).drop j).take sz) else none
  | .ints k L => if e == 1 && (j == 0 && sz == 1) then some (some (i < L.length), [.int k (L.getD i 0)]) else none
  | .oints k L => if e == 1 && (j == 0 && sz == 1) then some (some (i < L.length), [.int k (L.getD i 0)]) else none
  | .obj _ _ _ => none
def packV (ag : Bool) (cs : List SC) : Option SV :=
  if ag then some (.s (.a cs)) else
    match cs with
    | [c] => some (one c)
    | _ => none

theorem getElem?_sub {α : Type} (l : List α) (j sz x : Nat) (h : x < sz) : ((l.drop j).take sz)[x]? = l[j + x]? := by
  rw [List.getElem?_take_of_lt h, List.getElem?_drop]
theorem blkGet_ok0 {μ : Mu} {w : World} {l : Loc} {k : Blk} {i e j sz : Nat} {p : Option Prop} {cs : List SC} (hni : ∀ q L, k ≠ .ints q L) (hno : ∀ q L, k ≠ .oints q L) (hk : k.ok μ w l) (h : blkGet k i e j sz = some (p, cs)) (hp : holds p) :
    ∃ vs : List Value, vs.length = sz ∧ All2 (SC.ok μ) cs vs ∧ ∀ (x : Nat) (v : Value), vs[x]? = some v → w.cell? ⟨l.b, l.off + (i * e + j) + x, none⟩ = some v := by
  have gen : ∀ (src : List SC) (get : Nat → Option Value), j + sz ≤ src.length → (∀ x c, src[x]? = some c → ∃ v, get x = some v ∧ c.ok μ v) →
      ∃ vs : List Value, vs.length = sz ∧ All2 (SC.ok μ) ((src.drop j).take sz) vs ∧ ∀ (x : Nat) (v : Value), vs[x]? = some v → get (j + x) = some v := by
    intro src get hle hg
    refine ⟨(List.range sz).map fun x => (get (j + x)).getD undef, by simp, ?_, ?_⟩
    · refine All2.mk (by simp; omega) fun x c v hc hv => ?_
      have hx : x < sz := by
        have := (List.getElem?_eq_some_iff.1 hc).1
        simp at this
        omega
      rw [getElem?_sub _ _ _ _ hx] at hc
      obtain ⟨u, hu, hok⟩ := hg _ _ hc
      simp [hx, hu] at hv
      subst hv
      exact hok
    · intro x v hv
      have hx : x < sz := by
        have := (List.getElem?_eq_some_iff.1 hv).1
        simpa using this
      obtain ⟨u, hu, _⟩ := hg (j + x) _ (List.getElem?_eq_getElem (by omega))
      simp [hx, hu] at hv
      rw [hu, hv]
  cases k with
  | cells t src =>
    obtain ⟨h0, vs, hv, ha⟩ := hk
    simp only [blkGet] at h
    split at h
    · rename_i hc
      simp at hc
      obtain ⟨rfl, hle⟩ := hc
      simp at h
      obtain ⟨_, rfl⟩ := h
      obtain ⟨us, h1, h2, h3⟩ := gen src (fun x => w.cell? ⟨l.b, l.off + x, none⟩) hle fun x c hx => by
        obtain ⟨v, hv', hok⟩ := ha.get x c hx
        exact ⟨v, by simp [World.cell?, hv, h0, hv'], hok⟩
      exact ⟨us, h1, h2, fun x v hx => by have := h3 x v hx; simpa [Nat.add_assoc] using this⟩
    · cases h
  | view e' n f =>
    simp only [blkGet] at h
    split at h
    · rename_i hc
      simp at hc
      obtain ⟨rfl, hle⟩ := hc
      simp at h
      obtain ⟨rfl, rfl⟩ := h
      obtain ⟨h1, h2⟩ := hk.2 i hp
      obtain ⟨us, g1, g2, g3⟩ := gen (f i) (fun x => w.cell? ⟨l.b, l.off + (i * e + x), none⟩) (by omega) fun x c hx => h2 x c hx
      exact ⟨us, g1, g2, fun x v hx => by have := g3 x v hx; simpa [Nat.add_assoc] using this⟩
    · cases h
  | own t e' n f =>
    simp only [blkGet] at h
    split at h
    · rename_i hc
      simp at hc
      obtain ⟨rfl, hle⟩ := hc
      simp at h
      obtain ⟨rfl, rfl⟩ := h
      obtain ⟨a, c, xs, k1, k2, k3, k4, k5, k6⟩ := hk
      have hin : i < n := hp
      obtain ⟨h1, h2⟩ := k6 i hin
      obtain ⟨_, cur, hcur, hsz, hat⟩ := k5 (by omega)
      obtain ⟨us, g1, g2, g3⟩ := gen (f i) (fun x => w.cell? ⟨l.b, l.off + (i * e + x), none⟩) (by omega) fun x c hx => by
        obtain ⟨v, hv, hok⟩ := h2 x c hx
        refine ⟨v, ?_, hok⟩
        have hx' : x < (f i).length := (List.getElem?_eq_some_iff.1 hx).1
        have hlt : i * e + x < n * e := by
          have : (i + 1) * e ≤ n * e := Nat.mul_le_mul_right e hin
          rw [Nat.add_mul] at this
          omega
        simp only [World.cell?, hcur]
        simp only [Option.isSome_none, Bool.false_eq_true, if_false]
        rw [hat _ hlt]
        exact hv
      exact ⟨us, g1, g2, fun x v hx => by have := g3 x v hx; simpa [Nat.add_assoc] using this⟩
    · cases h
  | ints k L => exact (hni k L rfl).elim
  | oints k L => exact (hno k L rfl).elim
  | obj _ _ _ => simp [blkGet] at h
theorem blkGet_ok {μ : Mu} {w : World} {l : Loc} {k : Blk} {i e j sz : Nat} {p : Option Prop} {cs : List SC} (hk : k.ok μ w l) (h : blkGet k i e j sz = some (p, cs)) (hp : holds p) :
    ∃ vs : List Value, vs.length = sz ∧ All2 (SC.ok μ) cs vs ∧ ∀ (x : Nat) (v : Value), vs[x]? = some v → w.cell? ⟨l.b, l.off + (i * e + j) + x, none⟩ = some v := by
  cases k with
  | ints k L =>
    simp only [blkGet] at h
    split at h
    · rename_i hc
      simp at hc
      obtain ⟨rfl, rfl, rfl⟩ := hc
      refine blkGet_ok0 (k := .view 1 L.length (intsF k L)) (fun _ _ h => by cases h) (fun _ _ h => by cases h) hk ?_ hp
      rw [← h]
      simp [blkGet, intsF]
    · cases h
  | oints k L =>
    obtain ⟨t, hk⟩ := hk
    simp only [blkGet] at h
    split at h
    · rename_i hc
      simp at hc
      obtain ⟨rfl, rfl, rfl⟩ := hc
      refine blkGet_ok0 (k := .own t 1 L.length (intsF k L)) (fun _ _ h => by cases h) (fun _ _ h => by cases h) hk ?_ hp
      rw [← h]
      simp [blkGet, intsF]
    · cases h
  | cells t cs => exact blkGet_ok0 (fun _ _ h => by cases h) (fun _ _ h => by cases h) hk h hp
  | view e n f => exact blkGet_ok0 (fun _ _ h => by cases h) (fun _ _ h => by cases h) hk h hp
  | own t e n f => exact blkGet_ok0 (fun _ _ h => by cases h) (fun _ _ h => by cases h) hk h hp
  | obj _ _ _ => simp [blkGet] at h

def loadReq (P : Program) (t : TypeId) (x : SV) : Req :=
  match x, P.info? t, P.underlying t with
  | .s (.c (.ptr b i e j)), some inf, some d => ⟨[b], [], fun bl =>
      match bl with
      | [some k] => match blkGet k i e j inf.size with
        | some (p, cs) => match packV (agD d) cs with
          | some v => oAst p (.ret ⟨v, [], []⟩)
          | none => .fail
        | none => .fail
      | _ => .fail⟩
  | _, _, _ => Req.fail
theorem Addr.add_lit' (b o n : Nat) : Addr.add ⟨b, o, none⟩ n = ⟨b, o + n, none⟩ := Go.Addr.add_lit b o n
theorem load_ok {P : Program} {μ : Mu} {h : Nat → Option Blk} {w : World} {base : Nat} {t : TypeId} {x : SV} {u : Value} (hm : HeapM μ h w) (hx : x.ok μ u) :
    Snd P μ h w base (loadReq P t x) (Instr.loadAt t u) := by
  intro K hk
  unfold loadReq at hk ⊢
  split at hk
  · rename_i b i e j inf d hi hu
    obtain ⟨l, hl, rfl⟩ := hx
    simp only [Req.pre, List.append_nil, List.map_cons, List.map_nil] at hk
    split at hk
    · rename_i k hb
      simp at hb
      split at hk
      · rename_i p cs hg
        split at hk
        · rename_i v hp
          obtain ⟨hp', hk⟩ := oAst_ok hk
          obtain ⟨l', hl', hok⟩ := hm.ok b k hb
          rw [hl] at hl'; cases hl'
          obtain ⟨vs, h1, h2, h3⟩ := blkGet_ok hok hg hp'
          have hc : ∀ (x : Nat) (v : Value), vs[x]? = some v → w.cell? ((⟨l.b, l.off + (i * e + j), none⟩ : Addr).add x) = some v := fun x v hv => by
            rw [Addr.add_lit']; exact h3 x v hv
          unfold packV at hp
          split at hp
          · rename_i hag
            cases hp
            refine ⟨.agg vs.toArray, w, μ, _, ?_, hk, Eff.pure ⟨vs, rfl, h2⟩⟩
            have hrun := run_loadCells_list (P := P) w ⟨l.b, l.off + (i * e + j), none⟩ vs hc
            rw [h1] at hrun
            simp [Instr.loadAt, Instr.sureAddr, loadVar, run_isAgg hu, hag, run_sizeOf' hi, hrun]
          · rename_i hag
            split at hp
            · rename_i c
              cases hp
              match vs, h2 with
              | [v], h2 =>
                refine ⟨v, w, μ, _, ?_, hk, Eff.pure h2.1⟩
                have := hc 0 v rfl
                rw [Addr.add_lit', Nat.add_zero] at this
                simp [Instr.loadAt, Instr.sureAddr, loadVar, run_isAgg hu, hag, this]
              | [], h2 => exact h2.elim
              | _ :: _ :: _, h2 => exact h2.2.elim
            · cases hp
        · exact hk.elim
      · exact hk.elim
    · exact hk.elim
  · exact hk.elim

def constSC : Value → Option SC
  | .int k n => some (.num k n)
  | .bool b => some (.tru b)
  | .string z => some (.str z)
  | .pointer none => some .nil
  | .slice none 0 0 => some .nos
  | .func (.func f) ⟨[]⟩ ⟨[]⟩ => some (.fn f)
  | _ => none
theorem constSC_ok {μ : Mu} {v : Value} {c : SC} (h : constSC v = some c) : c.ok μ v := by
  unfold constSC at h
  split at h <;> simp at h <;> subst h <;> first | rfl | exact ⟨none, rfl⟩
def constL : List Value → Option (List SC)
  | [] => some []
  | v :: vs => match constSC v, constL vs with
    | some c, some cs => some (c :: cs)
    | _, _ => none
theorem constL_ok {μ : Mu} : ∀ {vs : List Value} {cs : List SC}, constL vs = some cs → All2 (SC.ok μ) cs vs
  | [], cs, h => by cases h; exact trivial
  | v :: vs, cs, h => by
    simp only [constL] at h
    split at h
    · rename_i c cs' h1 h2
      cases h
      exact ⟨constSC_ok h1, constL_ok h2⟩
    · cases h
def constSV : Value → SV
  | .agg cs => match constL cs.toList with
    | some l => .s (.a l)
    | none => .u
  | v => match constSC v with
    | some c => one c
    | none => .u
theorem constSV_ok (μ : Mu) (v : Value) : (constSV v).ok μ v := by
  unfold constSV
  split
  · rename_i cs
    split
    · rename_i l hl
      exact ⟨cs.toList, by simp, constL_ok hl⟩
    · trivial
  · split
    · rename_i c hc
      exact constSC_ok hc
    · trivial

theorem SC.one_cell {μ : Mu} {c : SC} {v : Value} (h : c.ok μ v) (hm : ∀ l, (∃ b, μ b = some l) → l.hd.oneCell' = true ∨ True) : v.oneCell' = true := by
  cases c <;> simp [SC.ok] at h
  case ptr => obtain ⟨l, _, rfl⟩ := h; rfl
  case sli => obtain ⟨l, _, a, rfl, _⟩ := h; rfl
  case own => obtain ⟨l, _, rfl, a, he, _⟩ := h; rw [he]; rfl
  case nos => obtain ⟨a, rfl⟩ := h; rfl
  all_goals (subst h; rfl)
theorem SC.one_cell' {μ : Mu} {c : SC} {v : Value} (h : c.ok μ v) : v.oneCell' = true := SC.one_cell h fun _ _ => .inr trivial
theorem All2.one_cell {μ : Mu} : ∀ {cs : List SC} {vs : List Value}, All2 (SC.ok μ) cs vs → ∀ v ∈ vs, v.oneCell' = true
  | [], [], _, _, h => by cases h
  | _ :: _, v :: vs, hh, u, h => by
    rcases List.mem_cons.1 h with rfl | h
    · exact SC.one_cell' hh.1
    · exact All2.one_cell hh.2 u h
  | [], _ :: _, hh, _, _ => hh.elim
  | _ :: _, [], hh, _, _ => hh.elim
theorem cells_of_one {v : Value} (h : v.oneCell' = true) : v.cells = #[v] := by cases v <;> simp_all [Value.oneCell', Value.cells]

/-- a value's cells -/
def SV.cells? : SV → Option (List SC)
  | .s (.c c) => some [c]
  | .s (.a cs) => some cs
  | _ => none
theorem SV.cells_ok {μ : Mu} {x : SV} {v : Value} {cs : List SC} (h : x.cells? = some cs) (hx : x.ok μ v) : All2 (SC.ok μ) cs v.cells.toList := by
  unfold SV.cells? at h
  split at h
  · cases h
    rw [cells_of_one (SC.one_cell' hx)]
    exact ⟨hx, trivial⟩
  · cases h
    obtain ⟨vs, rfl, ha⟩ := hx
    simpa [Value.cells] using ha
  · cases h

/-- a new block of the call's -/
theorem Eff.new {μ : Mu} {h : Nat → Option Blk} {w : World} {base : Nat} {t : TypeId} {cs : List SC} {vs : List Value} (hf : ∀ n ∈ freshN base, μ n = none) (hv : All2 (SC.ok μ) cs vs) :
    ∃ μ', Eff μ μ' h w base [] ⟨one (.ptr base 0 0 0), [], [.cells t cs]⟩ (.pointer (some ⟨w.heap.size, 0, none⟩)) { w with heap := w.heap.push (.cells vs.toArray t) } := by
  have hb : μ base = none := hf base (by simp [freshN])
  let μ' : Mu := fun n => if n = base then some ⟨w.heap.size, 0, undef⟩ else μ n
  have hext : Ext μ μ' := fun n l hl => by
    by_cases hn : n = base
    · subst hn; rw [hb] at hl; cases hl
    · simp [μ', hn, hl]
  refine ⟨μ', { ext := hext, dom := fun n l hl => ?_, val := ⟨⟨w.heap.size, 0, undef⟩, (by simp [μ']), (by simp)⟩, os := rfl, tape := rfl, output := rfl, size := (by simp), keep := fun x hx _ => (by simp [Array.getElem?_push, Nat.ne_of_lt hx]), wrs := List.nodup_nil, wsl := rfl, nsl := (by simp), olds := fun j n b' h => (by simp at h), news := fun j b hj => ?_, newsApart := fun j k b c l m x hne hj hk => ?_ }⟩
  · by_cases hn : n = base
    · right; simp [freshN, hn]
    · left; simpa [μ', hn] using hl
  · match j, hj with
    | 0, hj =>
      simp at hj
      subst hj
      refine ⟨⟨w.heap.size, 0, undef⟩, by simp [μ'], ⟨rfl, vs, by simp, hv.imp fun _ _ => SC.ok_ext hext⟩, fun x hx => ?_⟩
      have hx' : w.heap.size = x := hx
      left; omega
    | j + 1, hj => simp at hj
  · match j, k, hj, hk with
    | 0, 0, _, _ => exact absurd rfl hne
    | j + 1, _, hj, _ => simp at hj
    | _, k + 1, _, hk => simp at hk
def newReq (base : Nat) (t : TypeId) (cs : Option (List SC)) : Req :=
  match cs with
  | some cs => ⟨[], [], fun _ => .ret ⟨one (.ptr base 0 0 0), [], [.cells t cs]⟩⟩
  | none => Req.fail
theorem new_ok {P : Program} {μ : Mu} {h : Nat → Option Blk} {w : World} {base : Nat} {t : TypeId} {cs : Option (List SC)} {v : Value} (hf : ∀ n ∈ freshN base, μ n = none)
    (hv : ∀ l, cs = some l → All2 (SC.ok μ) l v.cells.toList) : Snd P μ h w base (newReq base t cs) (do pure (.pointer (some (← newVar t v)))) := by
  intro K hk
  cases cs with
  | none => exact hk.elim
  | some l =>
    obtain ⟨μ', he⟩ := Eff.new (h := h) (w := w) (t := t) hf (hv l rfl)
    refine ⟨_, _, μ', _, ?_, hk, he⟩
    simp [newVar, newRow]
def allocReq (P : Program) (base : Nat) (t : TypeId) : Req :=
  match P.info? t with
  | some inf => match inf.zero with
    | some z => newReq base t (constL z.cells.toList)
    | none => Req.fail
  | none => Req.fail
theorem alloc_ok {P : Program} {μ : Mu} {h : Nat → Option Blk} {w : World} {base : Nat} {t : TypeId} (hf : ∀ n ∈ freshN base, μ n = none) :
    Snd P μ h w base (allocReq P base t) (Instr.alloc t true (.tuple #[])) := by
  unfold allocReq
  split
  · rename_i inf hi
    split
    · rename_i z hz
      intro K hk
      obtain ⟨v, w', μ', res, h1, h2, h3⟩ := new_ok (P := P) (h := h) (w := w) (t := t) (v := z) hf (fun l hl => constL_ok hl) K hk
      refine ⟨v, w', μ', res, ?_, h2, h3⟩
      rw [← h1]
      simp [Instr.alloc, zeroValue, typeInfo, hi, hz]
    · exact Snd.fail
  · exact Snd.fail

/-- a value put in the place of some cells -/
def setAt (old : List SC) (j : Nat) (cs : List SC) : List SC := old.take j ++ cs ++ old.drop (j + cs.length)
theorem All2.append {R : SC → Value → Prop} : ∀ {a : List SC} {u : List Value} {b : List SC} {v : List Value}, All2 R a u → All2 R b v → All2 R (a ++ b) (u ++ v)
  | [], [], _, _, _, h => h
  | _ :: _, _ :: _, _, _, h, k => ⟨h.1, All2.append h.2 k⟩
  | [], _ :: _, _, _, h, _ => h.elim
  | _ :: _, [], _, _, h, _ => h.elim
theorem All2.take {R : SC → Value → Prop} : ∀ {a : List SC} {u : List Value} (n : Nat), All2 R a u → All2 R (a.take n) (u.take n)
  | [], [], n, _ => by simp; trivial
  | _ :: _, _ :: _, 0, _ => trivial
  | _ :: _, _ :: _, n + 1, h => ⟨h.1, All2.take n h.2⟩
  | [], _ :: _, _, h => h.elim
  | _ :: _, [], _, h => h.elim
theorem All2.drop {R : SC → Value → Prop} : ∀ {a : List SC} {u : List Value} (n : Nat), All2 R a u → All2 R (a.drop n) (u.drop n)
  | [], [], n, _ => by simp; trivial
  | _ :: _, _ :: _, 0, h => h
  | _ :: _, _ :: _, n + 1, h => All2.drop n h.2
  | [], _ :: _, _, h => h.elim
  | _ :: _, [], _, h => h.elim
theorem All2.setAt {R : SC → Value → Prop} {old : List SC} {vs : List Value} {cs : List SC} {us : List Value} {j : Nat} (h : All2 R old vs) (k : All2 R cs us) :
    All2 R (setAt old j cs) (vs.take j ++ us ++ vs.drop (j + us.length)) := by
  unfold Sx.setAt
  have := k.len
  rw [this]
  exact ((h.take j).append k).append (h.drop _)
/-- a cell that is a number of a kind -/
def intC (k : IntKind) : SC → Option Int
  | .int k' x => if k' = k then some x else none
  | .num k' x => if k' = k then some x else none
  | _ => none
theorem intC_ok {μ : Mu} {k : IntKind} {c : SC} {x : Int} {v : Value} (h : intC k c = some x) (hc : c.ok μ v) : v = .int k x := by
  unfold intC at h
  split at h
  · split at h
    · cases h; rename_i e; subst e; exact hc
    · cases h
  · split at h
    · cases h; rename_i e; subst e; exact hc
    · cases h
  · cases h
def blkSet (k : Blk) (i e j : Nat) (cs : List SC) : Option (Option Prop × Blk) :=
  match k with
  | .cells t old => if e == 0 && decide (j + cs.length ≤ old.length) then some (none, .cells t (setAt old j cs)) else none
  | .own t e' n f => if e == e' && decide (j + cs.length ≤ e) then some (some (i < n), .own t e' n fun x => if x = i then setAt (f i) j cs else f x) else none
  | .oints k L => match cs with
    | [c] => match intC k c with
      | some x => if e == 1 && j == 0 then some (some (i < L.length), .oints k (L.set i x)) else none
      | none => none
    | _ => none
  | _ => none
def storeReq (P : Program) (t : TypeId) (x v : SV) : Req :=
  match x, v.cells?, P.info? t with
  | .s (.c (.ptr b i e j)), some cs, some inf => ⟨[], [b], fun bl =>
      match bl with
      | [some k] => if cs.length = inf.size then
          match blkSet k i e j cs with
          | some (p, k') => oAst p (.ret ⟨.u, [some k'], []⟩)
          | none => .fail
        else .fail
      | _ => .fail⟩
  | _, _, _ => Req.fail
def SndU (P : Program) (μ : Mu) (h : Nat → Option Blk) (w : World) (base : Nat) (r : Req) (x : Sem Unit) : Prop :=
  ∀ K, r.pre h K → ∃ w' μ' res, x.run P w = .ok () w' ∧ K res ∧ Eff μ μ' h w base r.wr res undef w'
theorem setRow_keep (w : World) (g x : Nat) (cs : Array Value) (h : x ≠ g) : (w.setRow g cs).heap[x]? = w.heap[x]? := by
  simp only [World.setRow, Array.getElem?_modify]
  simp [Ne.symm h]
/-- one block written in place -/
theorem Eff.write {μ : Mu} {h : Nat → Option Blk} {w : World} {base b : Nat} {k k' : Blk} {l : Loc} {cs : Array Value} (hb : h b = some k) (hl : μ b = some l)
    (hx : k.excl w l l.b) (hu : ∀ x, k'.uses (w.setRow l.b cs) l x → x = l.b) (hok : k'.ok μ (w.setRow l.b cs) l) : Eff μ μ h w base [b] ⟨.u, [some k'], []⟩ undef (w.setRow l.b cs) where
  ext := Ext.refl μ
  dom := fun _ _ h => .inl h
  val := trivial
  os := rfl
  tape := rfl
  output := rfl
  size := by simp [World.setRow]
  keep := fun x _ hk => setRow_keep w l.b x cs fun e => hk b k l (by simp) hb hl (by rw [e]; exact hx)
  wrs := by simp
  wsl := rfl
  nsl := by simp
  olds := fun j n b' h1 h2 => by
    match j, h1, h2 with
    | 0, h1, h2 =>
      simp at h1 h2
      subst h1; subst h2
      exact ⟨k, l, hb, hl, hok, fun x hx' => .inl (by rw [hu x hx']; exact hx)⟩
    | j + 1, h1, _ => simp at h1
  news := fun j b h => by simp at h
  newsApart := fun j k b c l m x _ h => by simp at h
theorem setAt_len (old cs : List SC) (j : Nat) (h : j + cs.length ≤ old.length) : (setAt old j cs).length = old.length := by simp [setAt]; omega
theorem setAt_get (old cs : List SC) (j x : Nat) (h : j + cs.length ≤ old.length) : (setAt old j cs)[x]? = if x < j then old[x]? else if x < j + cs.length then cs[x - j]? else old[x]? := by
  unfold setAt
  by_cases h1 : x < j
  · rw [if_pos h1, List.append_assoc, List.getElem?_append_left (by simp; omega), List.getElem?_take_of_lt h1]
  · rw [if_neg h1]
    by_cases h2 : x < j + cs.length
    · rw [if_pos h2, List.append_assoc, List.getElem?_append_right (by simp; omega), List.getElem?_append_left (by simp; omega)]
      congr 1
      simp; omega
    · rw [if_neg h2, List.getElem?_append_right (by simp; omega), List.getElem?_drop]
      congr 1
      simp; omega
theorem splice_get (cur : List Value) (us : List Value) (o x : Nat) (h : o + us.length ≤ cur.length) : (cur.take o ++ us ++ cur.drop (o + us.length))[x]? = if x < o then cur[x]? else if x < o + us.length then us[x - o]? else cur[x]? := by
  by_cases h1 : x < o
  · rw [if_pos h1, List.append_assoc, List.getElem?_append_left (by simp; omega), List.getElem?_take_of_lt h1]
  · rw [if_neg h1]
    by_cases h2 : x < o + us.length
    · rw [if_pos h2, List.append_assoc, List.getElem?_append_right (by simp; omega), List.getElem?_append_left (by simp; omega)]
      congr 1
      simp; omega
    · rw [if_neg h2, List.getElem?_append_right (by simp; omega), List.getElem?_drop]
      congr 1
      simp; omega
/-- a row of the call's own, one element written -/
theorem ownOk.store {P : Program} {μ : Mu} {w : World} {l : Loc} {tt : TypeId} {e n : Nat} {f : Nat → List SC} {i j : Nat} {cs : List SC} {us : List Value} (hok : ownOk μ w l tt e n f) (hin : i < n) (hle : j + cs.length ≤ e) (ha : All2 (SC.ok μ) cs us) :
    ∃ cur, (storeCells ⟨l.b, l.off + (i * e + j), none⟩ us).run P w = .ok () (w.setRow l.b cur) ∧ ownOk μ (w.setRow l.b cur) l tt e n (fun x => if x = i then setAt (f i) j cs else f x) ∧ Value.noRow l.hd = false := by
  have hone := ha.one_cell
  have hus : us.length = cs.length := ha.len
  obtain ⟨a, c, xs, k1, k2, k3, k4, k5, k6⟩ := hok
  obtain ⟨ha', cur, hcur, hcs, hat⟩ := k5 (by omega)
  have hie : i * e + e ≤ n * e := by
    have : (i + 1) * e ≤ n * e := Nat.mul_le_mul_right e hin
    rw [Nat.add_mul] at this
    omega
  have hne : n * e ≤ c * e := Nat.mul_le_mul_right e k2
  have hst := run_storeCells_at P l.b (l.off + (i * e + j)) tt us 0 cur w hcur (by omega) hone
  have hno : Value.noRow l.hd = false := by
    rw [k1]
    cases c with
    | zero => omega
    | succ c => rfl
  refine ⟨_, hst, ⟨a, c, xs.take (i * e + j) ++ us ++ xs.drop (i * e + j + us.length), k1, k2, k3, ?_, fun _ => ⟨ha', _, setRow_heap w l.b _ _ tt _ hcur, ?_, ?_⟩, ?_⟩, hno⟩
  · simp; omega
  · simp; omega
  · intro x hx
    simp only [List.getElem?_toArray, Nat.add_zero]
    rw [splice_get _ _ _ _ (by simp; omega), splice_get _ _ _ _ (by omega)]
    by_cases h1 : x < i * e + j
    · rw [if_pos (by omega), if_pos h1]
      simpa using hat x hx
    · rw [if_neg (by omega), if_neg h1]
      by_cases h2 : x < i * e + j + us.length
      · rw [if_pos (by omega), if_pos h2]
        congr 1
        omega
      · rw [if_neg (by omega), if_neg h2]
        simpa using hat x hx
  · intro y hyn
    by_cases hyi : y = i
    · subst hyi
      simp only [if_true]
      obtain ⟨g1, g2⟩ := k6 y hyn
      refine ⟨by rw [setAt_len _ _ _ (by omega)]; exact g1, fun z c' hz => ?_⟩
      rw [setAt_get _ _ _ _ (by omega)] at hz
      rw [splice_get _ _ _ _ (by omega)]
      split at hz
      · rw [if_pos (by omega)]
        exact g2 z c' hz
      · split at hz
        · rw [if_neg (by omega), if_pos (by omega)]
          obtain ⟨v', hv', hok'⟩ := ha.get _ _ hz
          refine ⟨v', ?_, hok'⟩
          rw [← hv']
          congr 1
          omega
        · rw [if_neg (by omega), if_neg (by omega)]
          exact g2 z c' hz
    · simp only [hyi, if_false]
      obtain ⟨g1, g2⟩ := k6 y hyn
      refine ⟨g1, fun z c' hz => ?_⟩
      have hzl : z < e := by
        have := (List.getElem?_eq_some_iff.1 hz).1
        omega
      rw [splice_get _ _ _ _ (by omega)]
      have hdisj : y * e + z < i * e + j ∨ i * e + j + us.length ≤ y * e + z := by
        rcases Nat.lt_or_gt_of_ne hyi with hlt | hgt
        · left
          have : (y + 1) * e ≤ i * e := Nat.mul_le_mul_right e hlt
          rw [Nat.add_mul] at this
          omega
        · right
          have : (i + 1) * e ≤ y * e := Nat.mul_le_mul_right e hgt
          rw [Nat.add_mul] at this
          omega
      rcases hdisj with h1 | h1
      · rw [if_pos h1]; exact g2 z c' hz
      · rw [if_neg (by omega), if_neg (by omega)]; exact g2 z c' hz
/-- cells that say no more -/
def lessC (μ : Mu) : List SC → List SC → Prop
  | [], [] => True
  | c :: cs, d :: ds => (∀ v, c.ok μ v → d.ok μ v) ∧ lessC μ cs ds
  | _, _ => False
theorem lessC.len {μ : Mu} : ∀ {cs ds : List SC}, lessC μ cs ds → cs.length = ds.length
  | [], [], _ => rfl
  | _ :: _, _ :: _, h => by simp [lessC.len h.2]
  | [], _ :: _, h => h.elim
  | _ :: _, [], h => h.elim
theorem lessC.get {μ : Mu} : ∀ {cs ds : List SC}, lessC μ cs ds → ∀ (j : Nat) (d : SC), ds[j]? = some d → ∃ c, cs[j]? = some c ∧ ∀ v, c.ok μ v → d.ok μ v
  | _ :: _, _ :: _, h, 0, d, hd => by simp at hd; subst hd; exact ⟨_, rfl, h.1⟩
  | _ :: _, _ :: _, h, j + 1, d, hd => by simpa using lessC.get h.2 j d (by simpa using hd)
  | [], [], _, j, d, hd => by simp at hd
  | [], _ :: _, h, _, _, _ => h.elim
  | _ :: _, [], h, _, _, _ => h.elim
theorem Elems.congr {μ : Mu} {e n m : Nat} {f g : Nat → List SC} {at_ : Nat → Option Value} (h : Elems μ e n f at_) (hm : m = n) (hg : ∀ i, i < n → lessC μ (f i) (g i)) : Elems μ e m g at_ := fun i hi => by
  subst hm
  obtain ⟨h1, h2⟩ := h i hi
  refine ⟨by rw [← (hg i hi).len, h1], fun j c hc => ?_⟩
  obtain ⟨d, hd, hdc⟩ := (hg i hi).get j c hc
  obtain ⟨v, hv, hok⟩ := h2 j d hd
  exact ⟨v, hv, hdc v hok⟩
theorem ownOk.congr {μ : Mu} {w : World} {l : Loc} {t : TypeId} {e n m : Nat} {f g : Nat → List SC} (h : ownOk μ w l t e n f) (hm : m = n) (hg : ∀ i, i < n → lessC μ (f i) (g i)) : ownOk μ w l t e m g := by
  subst hm
  obtain ⟨a, c, xs, k1, k2, k3, k4, k5, k6⟩ := h
  exact ⟨a, c, xs, k1, k2, k3, k4, k5, k6.congr rfl hg⟩
theorem store_ok {P : Program} {μ : Mu} {h : Nat → Option Blk} {w : World} {base : Nat} {t : TypeId} {x y : SV} {u v : Value} (hm : HeapM μ h w) (hx : x.ok μ u) (hy : y.ok μ v) :
    SndU P μ h w base (storeReq P t x y) (Instr.storeAt t u v) := by
  intro K hk
  unfold storeReq at hk ⊢
  split at hk
  · rename_i b i e j cs inf hc hi
    obtain ⟨l, hl, rfl⟩ := hx
    simp only [Req.pre, List.nil_append, List.map_cons, List.map_nil] at hk
    split at hk
    · rename_i k hb
      simp at hb
      split at hk
      · rename_i hlen
        split at hk
        · rename_i p k' hs
          obtain ⟨hp, hk2⟩ := oAst_ok hk
          obtain ⟨l', hl', hok⟩ := hm.ok b k hb
          rw [hl] at hl'; cases hl'
          have ha := SV.cells_ok hc hy
          have hone := ha.one_cell
          have hus : v.cells.toList.length = cs.length := ha.len
          have hsz : v.cells.size = inf.size := by rw [← hlen, ← hus]; simp
          have hrun : ∀ w', (storeCells ⟨l.b, l.off + (i * e + j), none⟩ v.cells.toList).run P w = .ok () w' →
              (Instr.storeAt t (.pointer (some ⟨l.b, l.off + (i * e + j), none⟩)) v).run P w = .ok () w' := fun w' hw => by
            simp [Instr.storeAt, Instr.sureAddr, storeVar, run_sizeOf' hi, hsz, hw]
          cases k with
          | cells tt old =>
            simp only [blkSet] at hs
            split at hs
            · rename_i hcond
              simp at hcond
              obtain ⟨rfl, hle⟩ := hcond
              simp at hs
              obtain ⟨_, rfl⟩ := hs
              obtain ⟨h0, vs, hv, ha0⟩ := hok
              have hvl := ha0.len
              have hst := run_storeCells_at P l.b (l.off + (i * 0 + j)) tt v.cells.toList 0 vs.toArray w hv (by simp [h0] at hus ⊢; omega) hone
              refine ⟨_, μ, _, hrun _ hst, hk2, Eff.write hb hl rfl (fun x hx => hx.symm) ⟨h0, _, setRow_heap w l.b _ _ tt _ hv, ?_⟩⟩
              have := ha0.setAt (j := j) ha
              simpa [h0] using this
            · cases hs
          | view e' n f => simp [blkSet] at hs
          | own tt e' n f =>
            simp only [blkSet] at hs
            split at hs
            · rename_i hcond
              simp at hcond
              obtain ⟨rfl, hle⟩ := hcond
              simp at hs
              obtain ⟨rfl, rfl⟩ := hs
              obtain ⟨cur, hst, hok2, hno⟩ := ownOk.store (P := P) hok hp hle ha
              exact ⟨_, μ, _, hrun _ hst, hk2, Eff.write hb hl ⟨hno, rfl⟩ (fun x hx => hx.2.symm) hok2⟩
            · cases hs
          | ints q L => simp [blkSet] at hs
          | obj _ _ _ => simp [blkSet] at hs
          | oints q L =>
            obtain ⟨tt, hok⟩ := hok
            simp only [blkSet] at hs
            split at hs
            · rename_i c
              split at hs
              · rename_i x hx0
                split at hs
                · rename_i hcond
                  simp at hcond
                  obtain ⟨rfl, rfl⟩ := hcond
                  simp at hs
                  obtain ⟨rfl, rfl⟩ := hs
                  obtain ⟨cur, hst, hok2, hno⟩ := ownOk.store (P := P) (j := 0) hok hp (by simp) ha
                  have hin : i < L.length := hp
                  refine ⟨_, μ, _, hrun _ hst, hk2, Eff.write hb hl ⟨hno, rfl⟩ (fun x hx => hx.2.symm) ?_⟩
                  refine ⟨tt, ownOk.congr hok2 (by simp) fun y hy => ?_⟩
                  have hcx : ∀ v : Value, c.ok μ v → (SC.int q x).ok μ v := fun v hv => intC_ok hx0 hv
                  by_cases hyi : y = i
                  · subst hyi
                    simp only [if_true, setAt, intsF, List.getD_eq_getElem?_getD]
                    simp [hin]
                    exact ⟨hcx, trivial⟩
                  · simp only [hyi, if_false, intsF, List.getD_eq_getElem?_getD]
                    rw [List.getElem?_set_ne (fun e => hyi e.symm)]
                    exact ⟨fun v hv => hv, trivial⟩
                · cases hs
              · cases hs
            · cases hs
        · exact hk.elim
      · exact hk.elim
    · exact hk.elim
  · exact hk.elim
end Go.Proofs.Ytcaipfdnadlkdaa.Sx

namespace Go.Proofs.Ytcaipfdnadlkdaa.Sx
open Go
set_option linter.unusedVariables false
set_option linter.unusedSimpArgs false

/-- a field's place -/
def fieldOut (P : Program) (s : TypeId) (x : SV) (f : Nat) : Out SV :=
  match x, P.underlying s with
  | .s (.c (.ptr b i e j)), some (.struct fs) => match fs[f]? with
    | some fd => match P.info? fd.type with
      | some inf => if inf.size = 0 then .fail else .ret (one (.ptr b i e (j + fd.offset)))
      | none => .fail
    | none => .fail
  | _, _ => .fail
theorem field_ok {μ : Mu} {P : Program} {w : World} {K : SV → Prop} {s : TypeId} {x : SV} {u : Value} {f : Nat} (hx : x.ok μ u) (h : (fieldOut P s x f).wp K) :
    ∃ z sv, (Instr.fieldAt s u f).run P w = .ok z w ∧ K sv ∧ sv.ok μ z := by
  unfold fieldOut at h
  split at h
  · rename_i b i e j fs hu
    obtain ⟨l, hl, rfl⟩ := hx
    split at h
    · rename_i fd hf
      split at h
      · rename_i inf hi
        split at h
        · exact h.elim
        · rename_i hz
          refine ⟨_, _, ?_, h, ⟨l, hl, rfl⟩⟩
          simp [Instr.fieldAt, run_underlying hu, hf, Instr.sureAddr, fieldPlace, run_sizeOf' hi, hz, Addr.add_lit', Nat.add_assoc]
      · exact h.elim
    · exact h.elim
  · exact h.elim

/-- one of n places, by an index that is any -/
def splitN (n : Int) (f : Nat → Out SV) : Nat → Nat → Out SV
  | m, 0 => .fail
  | m, 1 => f m
  | m, k + 2 => .br (n = (m : Int)) (f m) (splitN n f (m + 1) (k + 1))
theorem splitN_ok {n : Int} {f : Nat → Out SV} {K : SV → Prop} : ∀ {k m : Nat}, (m : Int) ≤ n → n < (m : Int) + k → (splitN n f m k).wp K → ∃ x : Nat, n = (x : Int) ∧ (f x).wp K
  | 0, m, _, _, h => h.elim
  | 1, m, h1, h2, h => ⟨m, by omega, h⟩
  | k + 2, m, h1, h2, h => by
    by_cases hm : n = (m : Int)
    · exact ⟨m, hm, h.1 hm⟩
    · exact splitN_ok (by omega) (by omega) (h.2 hm)
/-- the place of an element -/
def indexOut (P : Program) (t : TypeId) (x ix : SV) : Out SV :=
  match P.underlying t, x, ix.int? with
  | some (.array len el), .s (.c (.ptr b i e j)), some (_, n, c) => match P.info? el with
    | some inf => need c (0 ≤ n ∧ n < len) (if c then .ret (one (.ptr b i e (j + n.toNat * inf.size))) else splitN n (fun m => .ret (one (.ptr b i e (j + m * inf.size)))) 0 len)
    | none => .fail
  | some (.slice el), .s (.c (.sli b i e j len cap q)), some (_, n, c) => match P.info? el with
    | some inf => if e = 0 then
        (need (c && q) (0 ≤ n ∧ n < len) (if c then .ret (one (.ptr b i 0 (j + n.toNat * inf.size))) else if q then splitN n (fun m => .ret (one (.ptr b i 0 (j + m * inf.size)))) 0 len else .fail))
      else if e = inf.size then need (c && q) (0 ≤ n ∧ n < len) (.ret (one (.ptr b (i + n.toNat) e j))) else .fail
    | none => .fail
  | some (.slice el), .s (.c (.own b len cap q)), some (_, n, c) => match P.info? el with
    | some inf => need (c && q) (0 ≤ n ∧ n < len) (.ret (one (.ptr b n.toNat inf.size 0)))
    | none => .fail
  | _, _, _ => .fail
theorem index_ok {μ : Mu} {P : Program} {w : World} {K : SV → Prop} {t : TypeId} {x ix : SV} {u v : Value} (hx : x.ok μ u) (hi : ix.ok μ v) (h : (indexOut P t x ix).wp K) :
    ∃ z sv, (Instr.indexAt t u v).run P w = .ok z w ∧ K sv ∧ sv.ok μ z := by
  unfold indexOut at h
  split at h
  · rename_i len el b i e j k n c hu hn
    obtain ⟨l, hl, rfl⟩ := hx
    have := SV.int_ok hn hi
    subst this
    split at h
    · rename_i inf hif
      obtain ⟨⟨h0, h1⟩, h⟩ := need_ok h
      have hrun : (Instr.indexAt t (.pointer (some ⟨l.b, l.off + (i * e + j), none⟩)) (.int k n)).run P w = .ok (.pointer (some ⟨l.b, l.off + (i * e + (j + n.toNat * inf.size)), none⟩)) w := by
        simp [Instr.indexAt, asIntOf, run_underlying hu, Instr.sureAddr, h0, h1, run_sizeOf' hif, Addr.add_lit', Nat.add_assoc]
      split at h
      · exact ⟨_, _, hrun, h, ⟨l, hl, rfl⟩⟩
      · obtain ⟨m, rfl, hm⟩ := splitN_ok (by omega) (by omega) h
        exact ⟨_, _, hrun, hm, ⟨l, hl, by simp⟩⟩
    · exact h.elim
  · rename_i el b i e j len cap q k n c hu hn
    obtain ⟨l, a, hl, rfl, ha, hlc, hcm⟩ := hx
    have := SV.int_ok hn hi
    subst this
    split at h
    · rename_i inf hif
      have gen : (0 ≤ n ∧ n < len) → (Instr.indexAt t (.slice a len cap) (.int k n)).run P w = .ok (.pointer (some ⟨l.b, l.off + (i * e + j) + n.toNat * inf.size, none⟩)) w := by
        rintro ⟨h0, h1⟩
        rw [ha (by omega)]
        simp [Instr.indexAt, asIntOf, run_underlying hu, h0, h1, run_sizeOf' hif, Addr.add_lit']
      split at h
      · rename_i he
        subst he
        obtain ⟨hb, h⟩ := need_ok h
        have hrun := gen hb
        split at h
        · exact ⟨_, _, hrun, h, ⟨l, hl, by simp [Nat.add_assoc]⟩⟩
        · split at h
          · obtain ⟨m, rfl, hm⟩ := splitN_ok (by omega) (by omega) h
            exact ⟨_, _, hrun, hm, ⟨l, hl, by simp [Nat.add_assoc]⟩⟩
          · exact h.elim
      · split at h
        · rename_i he
          obtain ⟨hb, h⟩ := need_ok h
          refine ⟨_, _, gen hb, h, ⟨l, hl, ?_⟩⟩
          rw [← he, Nat.add_mul]
          congr 3
          omega
        · exact h.elim
    · exact h.elim
  · rename_i el b len cap q k n c hu hn
    obtain ⟨l, a, hl, rfl, hd, ha, hlc, hcm⟩ := hx
    have := SV.int_ok hn hi
    subst this
    split at h
    · rename_i inf hif
      obtain ⟨⟨h0, h1⟩, h⟩ := need_ok h
      refine ⟨.pointer (some ⟨l.b, l.off + n.toNat * inf.size, none⟩), _, ?_, h, ⟨l, hl, by simp⟩⟩
      rw [hd, ha (by omega)]
      simp [Instr.indexAt, asIntOf, run_underlying hu, h0, h1, run_sizeOf' hif, Addr.add_lit']
    · exact h.elim
  · exact h.elim

/-- a bound of a cut -/
def bndO (x : Option SV) (d : Nat) (dq : Bool) (y : Nat) (yq : Bool) (k : Nat → Bool → Out SV) : Out SV :=
  match x with
  | none => k d dq
  | some v => match v.int? with
    | some (_, n, c) => need (c && yq) (0 ≤ n ∧ n ≤ (y : Int)) (k n.toNat c)
    | none => .fail
def optOk (μ : Mu) : Option SV → Option Value → Prop
  | none, none => True
  | some x, some v => x.ok μ v
  | _, _ => False
theorem bnd_ok {μ : Mu} {P : Program} {w : World} {K : SV → Prop} {x : Option SV} {v : Option Value} {d y : Nat} {dq yq : Bool} {k : Nat → Bool → Out SV} (hx : optOk μ x v) (hd : d ≤ y) (h : (bndO x d dq y yq k).wp K) :
    ∃ n q, n ≤ y ∧ (k n q).wp K ∧ ∀ code, (match v with | some v => Instr.sliceBound v y code | none => pure d : Sem Nat).run P w = .ok n w := by
  cases x with
  | none =>
    cases v with
    | none => exact ⟨d, dq, hd, h, fun _ => rfl⟩
    | some v => exact hx.elim
  | some x =>
    cases v with
    | none => exact hx.elim
    | some v =>
      simp only [bndO] at h
      split at h
      · rename_i k' n c hn
        have := SV.int_ok hn hx
        subst this
        obtain ⟨⟨h0, h1⟩, h⟩ := need_ok h
        exact ⟨n.toNat, c, by omega, h, fun code => by simp [Instr.sliceBound, asIntOf, h0, h1]⟩
      · exact h.elim
def zeroS (x : Option SV) : Bool :=
  match x with
  | some v => match v.int? with
    | some (_, n, c) => c && n == 0
    | none => false
  | none => false
def lowS (x : Option SV) : Bool :=
  match x with
  | none => true
  | some v => zeroS (some v)
def rowS (x : SV) : Bool :=
  match x with
  | .s (.c (.sli _ _ _ _ _ _ _)) => true
  | .s (.c (.own _ _ _ _)) => true
  | .s (.c .nos) => true
  | _ => false
theorem zeroS_ok {μ : Mu} {P : Program} {w : World} {x : Option SV} {v : Option Value} (h : zeroS x = true) (hx : optOk μ x v) : ∃ k, v = some (.int k 0) := by
  unfold zeroS at h
  split at h
  · rename_i y
    split at h
    · rename_i k n c hn
      simp at h
      obtain ⟨_, rfl⟩ := h
      cases v with
      | none => exact hx.elim
      | some v => exact ⟨k, by rw [SV.int_ok hn hx]⟩
    · cases h
  · cases h
theorem rowS_ok {μ : Mu} {x : SV} {u : Value} (h : rowS x = true) (hx : x.ok μ u) : ∃ a n c, u = .slice a n c := by
  unfold rowS at h
  split at h
  · obtain ⟨l, a, _, rfl, _⟩ := hx; exact ⟨_, _, _, rfl⟩
  · obtain ⟨l, a, _, rfl, he, _⟩ := hx; exact ⟨_, _, _, he⟩
  · obtain ⟨a, rfl⟩ := hx; exact ⟨_, _, _, rfl⟩
  · cases h
def sliceOut (P : Program) (t : TypeId) (x : SV) (lo hi mx : Option SV) : Out SV :=
  match mx with
  | some m => match P.underlying t with
    | some (.slice el) => match P.info? el with
      | some inf => if zeroS (some m) && (zeroS hi && (lowS lo && rowS x)) then .ret (one .nos) else .fail
      | none => .fail
    | _ => .fail
  | none =>
    match P.underlying t, x with
    | some (.array n el), .s (.c (.ptr b i e j)) => match P.info? el with
      | some inf => if n ≤ maxLen then (bndO hi n true n true fun h hq => bndO lo 0 true h hq fun l lq => if lq then .ret (one (.sli b i e (j + l * inf.size) (h - l) (n - l) hq)) else .fail) else .fail
      | none => .fail
    | some (.slice el), .s (.c (.sli b i e j len cap q)) => match P.info? el with
      | some inf => bndO hi len q cap q fun h hq => bndO lo 0 true h (hq && q) fun l lq =>
          if e = 0 then (if lq then .ret (one (.sli b i 0 (j + l * inf.size) (h - l) (cap - l) (hq && q))) else .fail)
          else if e = inf.size then .ret (one (.sli b (i + l) e j (h - l) (cap - l) (hq && lq && q))) else .fail
      | none => .fail
    | some (.slice el), .s (.c (.own b len cap q)) => match P.info? el with
      | some inf => bndO hi len q cap q fun h hq => bndO lo 0 true h (hq && q) fun l lq => .ret (one (.sli b l inf.size 0 (h - l) (cap - l) (hq && lq && q)))
      | none => .fail
    | some (.slice el), .s (.c .nos) => match P.info? el with
      | some inf => bndO hi 0 true 0 true fun h hq => bndO lo 0 true h hq fun l lq => .ret (one .nos)
      | none => .fail
    | _, _ => .fail
theorem slice_ok {μ : Mu} {P : Program} {w : World} {K : SV → Prop} {t : TypeId} {x : SV} {lo hi mx : Option SV} {u : Value} {vl vh vm : Option Value} (hx : x.ok μ u) (hlo : optOk μ lo vl) (hhi : optOk μ hi vh) (hmx : optOk μ mx vm)
    (h : (sliceOut P t x lo hi mx).wp K) :
    ∃ z sv, (Instr.sliceAt t u vl vh vm).run P w = .ok z w ∧ K sv ∧ sv.ok μ z := by
  unfold sliceOut at h
  cases mx with
  | some m =>
    simp only [] at h
    split at h
    · rename_i el hu
      split at h
      · rename_i inf hif
        split at h
        · rename_i hc
          simp only [Bool.and_eq_true] at hc
          obtain ⟨c1, c2, c3, c4⟩ := hc
          obtain ⟨k1, rfl⟩ := zeroS_ok (P := P) (w := w) c1 hmx
          obtain ⟨k2, rfl⟩ := zeroS_ok (P := P) (w := w) c2 hhi
          obtain ⟨a, n, c, rfl⟩ := rowS_ok c4 hx
          refine ⟨.slice a 0 0, _, ?_, h, ⟨a, rfl⟩⟩
          have hl : vl = none ∨ ∃ k3, vl = some (.int k3 0) := by
            cases lo with
            | none =>
              cases vl with
              | none => exact .inl rfl
              | some v => exact hlo.elim
            | some l => exact .inr (zeroS_ok (P := P) (w := w) (x := some l) c3 hlo)
          rcases hl with rfl | ⟨k3, rfl⟩ <;> simp [Instr.sliceAt, Instr.slice, run_underlying hu, Instr.sliceBounds, Instr.sliceBound, asIntOf, run_sizeOf' hif]
        · exact h.elim
      · exact h.elim
    · exact h.elim
  | none =>
  cases vm with
  | some m => exact hmx.elim
  | none =>
  simp only [] at h
  have bounds : ∀ (isS : Bool) (len cap : Nat) (hh l : Nat), (∀ code, (match vh with | some v => Instr.sliceBound v cap code | none => pure len : Sem Nat).run P w = .ok hh w) →
      (∀ code, (match vl with | some v => Instr.sliceBound v hh code | none => pure 0 : Sem Nat).run P w = .ok l w) → (Instr.sliceBounds isS len cap vl vh none).run P w = .ok (l, hh, cap) w := by
    intro isS len cap hh l h1 h2
    have h2' := h2 .sliceB
    unfold Instr.sliceBounds
    cases vh with
    | none =>
      have e : len = hh := by have := h1 .index; simp at this; exact this
      subst e
      cases vl with
      | none => simp at h2'; simp [h2']
      | some v => simp at h2'; simp [h2']
    | some z =>
      have h1' := fun c => h1 c
      simp at h1'
      cases vl with
      | none => simp at h2'; simp [h1', h2']
      | some v => simp at h2'; simp [h1', h2']
  split at h
  · rename_i n el b i e j hu
    obtain ⟨l, hl, rfl⟩ := hx
    split at h
    · rename_i inf hif
      split at h
      · rename_i hmax
        obtain ⟨hh, hq, hle, h', hr1⟩ := bnd_ok (P := P) (w := w) hhi (Nat.le_refl _) h
        obtain ⟨lo', lq, hle2, h'', hr2⟩ := bnd_ok (P := P) (w := w) hlo (Nat.zero_le _) h'
        split at h''
        · have hb := bounds false n n hh lo' hr1 hr2
          refine ⟨_, _, ?_, h'', ⟨l, some (if n = lo' then ⟨l.b, l.off + (i * e + j), none⟩ else ⟨l.b, l.off + (i * e + j) + lo' * inf.size, none⟩), hl, rfl, ?_, by omega, ?_⟩⟩
          · simp [Instr.sliceAt, run_underlying hu, Instr.sureAddr, hb, run_sizeOf' hif, Addr.add_lit']
          · intro hc
            rw [if_neg (by omega)]
            simp [Nat.add_assoc]
          · omega
        · exact h''.elim
      · exact h.elim
    · exact h.elim
  · rename_i el b i e j len cap q hu
    obtain ⟨l, a, hl, rfl, ha, hlc, hcm⟩ := hx
    split at h
    · rename_i inf hif
      obtain ⟨hh, hq, hle, h', hr1⟩ := bnd_ok (P := P) (w := w) hhi hlc h
      obtain ⟨lo', lq, hle2, h'', hr2⟩ := bnd_ok (P := P) (w := w) hlo (Nat.zero_le _) h'
      have hb := bounds true len cap hh lo' hr1 hr2
      have hrun : (Instr.sliceAt t (.slice a len cap) vl vh none).run P w = .ok (.slice (if cap = lo' then a else a.map (·.add (lo' * inf.size))) (hh - lo') (cap - lo')) w := by
        simp [Instr.sliceAt, Instr.slice, run_underlying hu, hb, run_sizeOf' hif]
      split at h''
      · rename_i he
        subst he
        split at h''
        · refine ⟨_, _, hrun, h'', ⟨l, _, hl, rfl, fun hc => ?_, by omega, by omega⟩⟩
          rw [if_neg (by omega), ha (by omega)]
          simp [Addr.add_lit', Nat.add_assoc]
        · exact h''.elim
      · split at h''
        · rename_i he
          refine ⟨_, _, hrun, h'', ⟨l, _, hl, rfl, fun hc => ?_, by omega, by omega⟩⟩
          rw [if_neg (by omega), ha (by omega), ← he]
          simp only [Option.map_some, Addr.add_lit', Nat.add_mul]
          congr 2
          omega
        · exact h''.elim
    · exact h.elim
  · rename_i el b len cap q hu
    obtain ⟨l, a, hl, rfl, hd, ha, hlc, hcm⟩ := hx
    split at h
    · rename_i inf hif
      obtain ⟨hh, hq, hle, h', hr1⟩ := bnd_ok (P := P) (w := w) hhi hlc h
      obtain ⟨lo', lq, hle2, h'', hr2⟩ := bnd_ok (P := P) (w := w) hlo (Nat.zero_le _) h'
      have hb := bounds true len cap hh lo' hr1 hr2
      refine ⟨.slice (if cap = lo' then a else a.map (·.add (lo' * inf.size))) (hh - lo') (cap - lo'), _, ?_, h'', ⟨l, _, hl, rfl, fun hc => ?_, by omega, by omega⟩⟩
      · rw [hd]
        simp [Instr.sliceAt, Instr.slice, run_underlying hu, hb, run_sizeOf' hif]
      · rw [if_neg (by omega), ha (by omega)]
        simp [Addr.add_lit']
    · exact h.elim
  · rename_i el hu
    obtain ⟨a, rfl⟩ := hx
    split at h
    · rename_i inf hif
      obtain ⟨hh, hq, hle, h', hr1⟩ := bnd_ok (P := P) (w := w) hhi (Nat.le_refl _) h
      obtain ⟨lo', lq, hle2, h'', hr2⟩ := bnd_ok (P := P) (w := w) hlo (Nat.zero_le _) h'
      have hb := bounds true 0 0 hh lo' hr1 hr2
      have e1 : hh = 0 := by omega
      have e2 : lo' = 0 := by omega
      subst e1; subst e2
      refine ⟨.slice a 0 0, _, ?_, h'', ⟨a, rfl⟩⟩
      simp [Instr.sliceAt, Instr.slice, run_underlying hu, hb, run_sizeOf' hif]
    · exact h.elim
  · exact h.elim

/-- a part of a struct's or an array's value -/
def partOut (P : Program) (t : TypeId) (cs : List SC) (off : Nat) : Out SV :=
  match P.underlying t, P.info? t with
  | some d, some inf => if agD d then .ret (.s (.a ((cs.drop off).take inf.size))) else
      match cs[off]? with
      | some c => .ret (one c)
      | none => .fail
  | _, _ => .fail
theorem part_ok {μ : Mu} {P : Program} {w : World} {K : SV → Prop} {t : TypeId} {cs : List SC} {vs : List Value} {off : Nat} (ha : All2 (SC.ok μ) cs vs) (h : (partOut P t cs off).wp K) :
    ∃ z sv, (part t vs.toArray off).run P w = .ok z w ∧ K sv ∧ sv.ok μ z := by
  unfold partOut at h
  split at h
  · rename_i d inf hu hi
    split at h
    · rename_i hag
      refine ⟨.agg (vs.toArray.extract off (off + inf.size)), _, ?_, h, ⟨(vs.drop off).take inf.size, ?_, (ha.drop off).take inf.size⟩⟩
      · simp [part, run_isAgg hu, hag, run_sizeOf' hi]
      · congr 1
        simp [List.extract_eq_take_drop]
    · rename_i hag
      split at h
      · rename_i c hc
        obtain ⟨v, hv, hok⟩ := ha.get off c hc
        exact ⟨v, _, by simp [part, run_isAgg hu, hag, hv], h, hok⟩
      · exact h.elim
  · exact h.elim
def fieldV (P : Program) (s : TypeId) (x : SV) (f : Nat) : Out SV :=
  match P.underlying s, x.agg? with
  | some (.struct fs), some cs => match fs[f]? with
    | some fd => partOut P fd.type cs fd.offset
    | none => .fail
  | _, _ => .fail
theorem fieldV_ok {μ : Mu} {P : Program} {w : World} {K : SV → Prop} {s : TypeId} {x : SV} {u : Value} {f : Nat} (hx : x.ok μ u) (h : (fieldV P s x f).wp K) :
    ∃ z sv, (Instr.field s u f).run P w = .ok z w ∧ K sv ∧ sv.ok μ z := by
  unfold fieldV at h
  split at h
  · rename_i fs cs hu hc
    obtain ⟨vs, rfl, ha⟩ := SV.agg_ok hc hx
    split at h
    · rename_i fd hf
      obtain ⟨z, sv, h1, h2, h3⟩ := part_ok (w := w) ha h
      exact ⟨z, sv, by simp [Instr.field, run_underlying hu, hf, asAgg, h1], h2, h3⟩
    · exact h.elim
  · exact h.elim
def indexV (P : Program) (t : TypeId) (x ix : SV) : Out SV :=
  match P.underlying t, x.agg?, ix.int? with
  | some (.array len el), some cs, some (_, n, c) => match P.info? el with
    | some inf => need c (0 ≤ n ∧ n < len) (if c then partOut P el cs (n.toNat * inf.size) else splitN n (fun m => partOut P el cs (m * inf.size)) 0 len)
    | none => .fail
  | _, _, _ => .fail
theorem indexV_ok {μ : Mu} {P : Program} {w : World} {K : SV → Prop} {t : TypeId} {x ix : SV} {u v : Value} (hx : x.ok μ u) (hi : ix.ok μ v) (h : (indexV P t x ix).wp K) :
    ∃ z sv, (Instr.index t u v).run P w = .ok z w ∧ K sv ∧ sv.ok μ z := by
  unfold indexV at h
  split at h
  · rename_i len el cs k n c hu hc hn
    obtain ⟨vs, rfl, ha⟩ := SV.agg_ok hc hx
    have := SV.int_ok hn hi
    subst this
    split at h
    · rename_i inf hif
      obtain ⟨⟨h0, h1⟩, h⟩ := need_ok h
      have hrun : ∀ z, (part el vs.toArray (n.toNat * inf.size)).run P w = .ok z w → (Instr.index t (.agg vs.toArray) (.int k n)).run P w = .ok z w := fun z hz => by
        simp [Instr.index, asIntOf, run_underlying hu, h0, h1, run_sizeOf' hif, hz]
      split at h
      · obtain ⟨z, sv, h1, h2, h3⟩ := part_ok (w := w) ha h
        exact ⟨z, sv, hrun z h1, h2, h3⟩
      · obtain ⟨m, rfl, hm⟩ := splitN_ok (by omega) (by omega) h
        obtain ⟨z, sv, h1, h2, h3⟩ := part_ok (w := w) ha hm
        exact ⟨z, sv, hrun z (by simpa using h1), h2, h3⟩
    · exact h.elim
  · exact h.elim
def extractOut (x : SV) (i : Nat) : Out SV :=
  match x with
  | .t xs => match xs[i]? with
    | some y => .ret (.s y)
    | none => .fail
  | _ => .fail
theorem extract_ok {μ : Mu} {P : Program} {w : World} {K : SV → Prop} {x : SV} {u : Value} {i : Nat} (hx : x.ok μ u) (h : (extractOut x i).wp K) :
    ∃ z sv, (Instr.extract u i).run P w = .ok z w ∧ K sv ∧ sv.ok μ z := by
  unfold extractOut at h
  split at h
  · rename_i xs
    obtain ⟨vs, rfl, ha⟩ := hx
    split at h
    · rename_i y hy
      obtain ⟨v, hv, hok⟩ := ha.get i y hy
      exact ⟨v, _, by simp [Instr.extract, hv], h, hok⟩
    · exact h.elim
  · exact h.elim
def mkN (q : Bool) (n : Nat) : SV := if q then one (.num .i64 n) else one (.int .i64 n)
theorem mkN_ok (μ : Mu) (q : Bool) (n : Nat) : (mkN q n).ok μ (.int .i64 n) := by cases q <;> rfl
def lenOut (P : Program) (t : TypeId) (x : SV) : Out SV :=
  match P.underlying t, x with
  | some (.slice _), .s (.c (.sli _ _ _ _ n _ q)) => .ret (mkN q n)
  | some (.slice _), .s (.c (.own _ n _ q)) => .ret (mkN q n)
  | some (.slice _), .s (.c .nos) => .ret (mkN true 0)
  | some .string, .s (.c (.str z)) => .ret (mkN false z.size)
  | some (.array n _), _ => .ret (mkN true n)
  | _, _ => .fail
theorem len_ok {μ : Mu} {P : Program} {w : World} {K : SV → Prop} {t ty : TypeId} {x : SV} {u : Value} (hx : x.ok μ u) (h : (lenOut P t x).wp K) :
    ∃ z sv, (Builtin.len_ #[t] ty #[u]).run P w = .ok z w ∧ K sv ∧ sv.ok μ z := by
  unfold lenOut at h
  split at h
  · rename_i hu
    obtain ⟨l, a, hl, rfl, _⟩ := hx
    exact ⟨_, _, by simp [Builtin.len_, run_underlying hu, goInt], h, mkN_ok μ _ _⟩
  · rename_i hu
    obtain ⟨l, a, hl, rfl, hd, _⟩ := hx
    exact ⟨_, _, by rw [hd]; simp [Builtin.len_, run_underlying hu, goInt], h, mkN_ok μ _ _⟩
  · rename_i hu
    obtain ⟨a, rfl⟩ := hx
    exact ⟨.int .i64 (0 : Nat), _, by simp [Builtin.len_, run_underlying hu, goInt], h, mkN_ok μ _ _⟩
  · rename_i z hu
    have : u = .string z := hx
    subst this
    exact ⟨_, _, by simp [Builtin.len_, run_underlying hu, goInt], h, mkN_ok μ _ _⟩
  · rename_i hu
    exact ⟨_, _, by simp [Builtin.len_, run_underlying hu, goInt], h, mkN_ok μ _ _⟩
  · exact h.elim
/-- min, max of integers -/
def minOut (mx : Bool) : SV → List SV → Out SV
  | x, [] => .ret x
  | x, y :: ys => match x.int?, y.int? with
    | some (k, a, c), some (_, b, c') => (mkI k (c && c') (if mx then max a b else min a b)).bind fun z => minOut mx z ys
    | _, _ => .fail
def AllV (μ : Mu) : List SV → List Value → Prop
  | [], [] => True
  | x :: xs, v :: vs => x.ok μ v ∧ AllV μ xs vs
  | _, _ => False
theorem min_ok {μ : Mu} {P : Program} {w : World} {K : SV → Prop} (mx : Bool) : ∀ {x : SV} {ys : List SV} {u : Value} {vs : List Value}, x.ok μ u → AllV μ ys vs → (minOut mx x ys).wp K →
    ∃ z sv, (vs.foldlM (if mx then Builtin.max2 else Builtin.min2) u).run P w = .ok z w ∧ K sv ∧ sv.ok μ z
  | x, [], u, [], hx, _, h => ⟨u, x, rfl, h, hx⟩
  | x, y :: ys, u, v :: vs, hx, hv, h => by
    simp only [minOut] at h
    split at h
    · rename_i k a c k' b c' ha hb
      have e1 := SV.int_ok ha hx
      have e2 := SV.int_ok hb hv.1
      subst e1; subst e2
      obtain ⟨sv, hs, hok⟩ := mkI_ok (μ := μ) (Out.wp_bind.1 h)
      obtain ⟨z, s2, h1, h2, h3⟩ := min_ok mx hok hv.2 hs
      refine ⟨z, s2, ?_, h2, h3⟩
      rw [List.foldlM_cons, Sem.run_bind]
      have hstep : ((if mx then Builtin.max2 else Builtin.min2) (.int k a) (.int k' b)).run P w = .ok (.int k (if mx then max a b else min a b)) w := by
        cases mx
        · simp only [Bool.false_eq_true, if_false, Builtin.min2, Sem.run_pure]
          congr 2
          split <;> omega
        · simp only [if_true, Builtin.max2, Sem.run_pure]
          congr 2
          split <;> omega
      rw [hstep]
      exact h1
    · exact h.elim
  | _, [], _, _ :: _, _, hv, _ => hv.elim
  | _, _ :: _, _, [], _, hv, _ => hv.elim
end Go.Proofs.Ytcaipfdnadlkdaa.Sx

namespace Go.Proofs.Ytcaipfdnadlkdaa.Sx
open Go
set_option linter.unusedVariables false
set_option linter.unusedSimpArgs false

theorem beqBytes (a b : ByteArray) : (a == b) = true ↔ a = b := by
  obtain ⟨⟨x⟩⟩ := a
  obtain ⟨⟨y⟩⟩ := b
  show ((⟨x⟩ : Array UInt8) == ⟨y⟩) = true ↔ _
  simp
def eqLeaf : TypeDesc → SC → SC → Option Prop
  | .int _, .num k a, .num k' b => if k = k' then some (a = b) else none
  | .int _, .num k a, .int k' b => if k = k' then some (a = b) else none
  | .int _, .int k a, .num k' b => if k = k' then some (a = b) else none
  | .int _, .int k a, .int k' b => if k = k' then some (a = b) else none
  | .bool, .tru a, .tru b => some (a = b)
  | .bool, .tru a, .boo b => some (a = b)
  | .bool, .boo a, .tru b => some (a = b)
  | .bool, .boo a, .boo b => some (a = b)
  | .string, .str a, .str b => some (a = b)
  | _, _, _ => none
theorem eqLeaf_ok {P : Program} {μ : Mu} {w : World} {t : TypeId} {d : TypeDesc} {x y : SC} {u v : Value} {p : Prop} (hd : P.underlying t = some d) (h : eqLeaf d x y = some p) (hx : x.ok μ u) (hy : y.ok μ v) (m : Nat) :
    ∃ b : Bool, (Op.equalIn (m + 1) t u v).run P w = .ok b w ∧ (b = true ↔ p) := by
  have int : ∀ {k k' k0 : IntKind} {a b : Int}, P.underlying t = some (.int k0) → u = .int k a → v = .int k' b → (if k = k' then some (a = b) else none) = some p → ∃ b : Bool, (Op.equalIn (m + 1) t u v).run P w = .ok b w ∧ (b = true ↔ p) := by
    intro k k' k0 a b hd hu hv h
    subst hu; subst hv
    split at h
    · rename_i hk; subst hk
      cases h
      exact ⟨a == b, run_equalIn_int w m t k k0 a b hd, by simp⟩
    · cases h
  have bool : ∀ {a b : Bool}, P.underlying t = some .bool → u = .bool a → v = .bool b → some (a = b) = some p → ∃ b : Bool, (Op.equalIn (m + 1) t u v).run P w = .ok b w ∧ (b = true ↔ p) := by
    intro a b hd hu hv h
    subst hu; subst hv
    cases h
    exact ⟨a == b, run_equalIn_bool' w m t a b hd, by simp⟩
  unfold eqLeaf at h
  split at h
  · exact int hd hx hy h
  · exact int hd hx hy h
  · exact int hd hx hy h
  · exact int hd hx hy h
  · exact bool hd hx hy h
  · exact bool hd hx hy h
  · exact bool hd hx hy h
  · exact bool hd hx hy h
  · rename_i a b
    have e1 : u = .string a := hx
    have e2 : v = .string b := hy
    subst e1; subst e2
    cases h
    refine ⟨a == b, ?_, beqBytes a b⟩
    rw [run_equalIn_string w m t a b hd, beq_toListBytes]
  · cases h

def conjP : List Prop → Prop
  | [] => True
  | [p] => p
  | p :: q :: ps => p ∧ conjP (q :: ps)
theorem conjP_cons (p : Prop) (ps : List Prop) : conjP (p :: ps) ↔ p ∧ conjP ps := by
  cases ps with
  | nil => simp [conjP]
  | cons q ps => rfl
theorem conjP_append (ps qs : List Prop) : conjP (ps ++ qs) ↔ conjP ps ∧ conjP qs := by
  induction ps with
  | nil => simp [conjP]
  | cons p ps ih => rw [List.cons_append, conjP_cons, conjP_cons, ih, and_assoc]

def partS (P : Program) (t : TypeId) (cs : List SC) (off : Nat) : Option (List SC) :=
  match P.underlying t, P.info? t with
  | some d, some inf => if agD d then some ((cs.drop off).take inf.size) else
      match cs[off]? with
      | some c => some [c]
      | none => none
  | _, _ => none
def VR (P : Program) (μ : Mu) (t : TypeId) (cs : List SC) (v : Value) : Prop :=
  ∃ d, P.underlying t = some d ∧ if agD d then ∃ vs : List Value, v = .agg vs.toArray ∧ All2 (SC.ok μ) cs vs else ∃ c, cs = [c] ∧ c.ok μ v
theorem partS_ok {P : Program} {μ : Mu} {w : World} {t : TypeId} {cs xs : List SC} {vs : List Value} {off : Nat} (ha : All2 (SC.ok μ) cs vs) (h : partS P t cs off = some xs) :
    ∃ z, (part t vs.toArray off).run P w = .ok z w ∧ VR P μ t xs z := by
  unfold partS at h
  split at h
  · rename_i d inf hu hi
    split at h
    · rename_i hag
      cases h
      refine ⟨.agg (vs.toArray.extract off (off + inf.size)), by simp [part, run_isAgg hu, hag, run_sizeOf' hi], d, hu, ?_⟩
      rw [if_pos hag]
      exact ⟨(vs.drop off).take inf.size, by simp [List.extract_eq_take_drop], (ha.drop off).take inf.size⟩
    · rename_i hag
      split at h
      · rename_i c hc
        cases h
        obtain ⟨v, hv, hok⟩ := ha.get off c hc
        exact ⟨v, by simp [part, run_isAgg hu, hag, hv], d, hu, by rw [if_neg hag]; exact ⟨c, rfl, hok⟩⟩
      · cases h
  · cases h

def eqFs (P : Program) (rec : TypeId → List SC → List SC → Option (List Prop)) (xs ys : List SC) : List Field → Option (List Prop)
  | [] => some []
  | f :: fs => if f.name = "_" then eqFs P rec xs ys fs else
    match partS P f.type xs f.offset, partS P f.type ys f.offset with
    | some a, some b => match rec f.type a b, eqFs P rec xs ys fs with
      | some p, some q => some (p ++ q)
      | _, _ => none
    | _, _ => none
def eqIs (P : Program) (rec : List SC → List SC → Option (List Prop)) (e : TypeId) (n : Nat) (xs ys : List SC) : List Nat → Option (List Prop)
  | [] => some []
  | i :: is =>
    match partS P e xs (i * n), partS P e ys (i * n) with
    | some a, some b => match rec a b, eqIs P rec e n xs ys is with
      | some p, some q => some (p ++ q)
      | _, _ => none
    | _, _ => none
def eqP (P : Program) : Nat → TypeId → List SC → List SC → Option (List Prop)
  | 0, _, _, _ => none
  | d + 1, t, xs, ys =>
    match P.underlying t with
    | some (.struct fs) => if P.stoodInHeld t then none else eqFs P (eqP P d) xs ys fs.toList
    | some (.array n e) => match P.info? e with
      | some _ => eqIs P (eqP P d e) e (P.cellsOf e) xs ys (List.range n)
      | none => none
    | some dd => match xs, ys with
      | [x], [y] => match eqLeaf dd x y with
        | some p => some [p]
        | none => none
      | _, _ => none
    | none => none

theorem eqFs_ok {P : Program} {μ : Mu} {w : World} {m : Nat} {rec : TypeId → List SC → List SC → Option (List Prop)}
    (hrec : ∀ t xs ys ps u v, rec t xs ys = some ps → VR P μ t xs u → VR P μ t ys v → ∃ b : Bool, (Op.equalIn m t u v).run P w = .ok b w ∧ (b = true ↔ conjP ps)) {xs ys : List SC} {us vs : List Value}
    (hx : All2 (SC.ok μ) xs us) (hy : All2 (SC.ok μ) ys vs) : ∀ (fs : List Field) (ps : List Prop), eqFs P rec xs ys fs = some ps → ∃ b : Bool, (Op.eqFields m us.toArray vs.toArray fs).run P w = .ok b w ∧ (b = true ↔ conjP ps)
  | [], ps, h => by cases h; exact ⟨true, rfl, by simp [conjP]⟩
  | f :: fs, ps, h => by
    simp only [eqFs] at h
    split at h
    · rename_i hn
      obtain ⟨b, h1, h2⟩ := eqFs_ok hrec hx hy fs ps h
      exact ⟨b, by simp [Op.eqFields, hn, h1], h2⟩
    · rename_i hn
      split at h
      · rename_i a b ha hb
        obtain ⟨z1, g1, g2⟩ := partS_ok (w := w) hx ha
        obtain ⟨z2, g3, g4⟩ := partS_ok (w := w) hy hb
        split at h
        · rename_i p q hp hq
          cases h
          obtain ⟨b1, k1, k2⟩ := hrec _ _ _ _ _ _ hp g2 g4
          obtain ⟨b2, k3, k4⟩ := eqFs_ok hrec hx hy fs q hq
          cases b1
          · refine ⟨false, by simp [Op.eqFields, hn, g1, g3, k1], ?_⟩
            rw [conjP_append]
            simp only [Bool.false_eq_true, false_iff] at k2 ⊢
            exact fun hh => k2 hh.1
          · refine ⟨b2, by simp [Op.eqFields, hn, g1, g3, k1, k3], ?_⟩
            rw [conjP_append, k4]
            simp only [true_iff] at k2
            simp [k2]
        · cases h
      · cases h
theorem eqIs_ok {P : Program} {μ : Mu} {w : World} {m n : Nat} {e : TypeId} {rec : List SC → List SC → Option (List Prop)}
    (hrec : ∀ xs ys ps u v, rec xs ys = some ps → VR P μ e xs u → VR P μ e ys v → ∃ b : Bool, (Op.equalIn m e u v).run P w = .ok b w ∧ (b = true ↔ conjP ps)) {xs ys : List SC} {us vs : List Value}
    (hx : All2 (SC.ok μ) xs us) (hy : All2 (SC.ok μ) ys vs) : ∀ (is : List Nat) (ps : List Prop), eqIs P rec e n xs ys is = some ps → ∃ b : Bool, (Op.eqItems m e n us.toArray vs.toArray is).run P w = .ok b w ∧ (b = true ↔ conjP ps)
  | [], ps, h => by cases h; exact ⟨true, by simp [Op.eqItems], by simp [conjP]⟩
  | i :: is, ps, h => by
    simp only [eqIs] at h
    split at h
    · rename_i a b ha hb
      obtain ⟨z1, g1, g2⟩ := partS_ok (w := w) hx ha
      obtain ⟨z2, g3, g4⟩ := partS_ok (w := w) hy hb
      split at h
      · rename_i p q hp hq
        cases h
        obtain ⟨b1, k1, k2⟩ := hrec _ _ _ _ _ hp g2 g4
        obtain ⟨b2, k3, k4⟩ := eqIs_ok hrec hx hy is q hq
        cases b1
        · refine ⟨false, by simp [Op.eqItems, g1, g3, k1], ?_⟩
          rw [conjP_append]
          simp only [Bool.false_eq_true, false_iff] at k2 ⊢
          exact fun hh => k2 hh.1
        · refine ⟨b2, by simp [Op.eqItems, g1, g3, k1, k3], ?_⟩
          rw [conjP_append, k4]
          simp only [true_iff] at k2
          simp [k2]
      · cases h
    · cases h
theorem eqP_ok {P : Program} {μ : Mu} {w : World} : ∀ (d m : Nat) (t : TypeId) (xs ys : List SC) (ps : List Prop) (u v : Value), eqP P d t xs ys = some ps → VR P μ t xs u → VR P μ t ys v →
    ∃ b : Bool, (Op.equalIn (m + d) t u v).run P w = .ok b w ∧ (b = true ↔ conjP ps)
  | 0, _, _, _, _, _, _, _, h, _, _ => by cases h
  | d + 1, m, t, xs, ys, ps, u, v, h, hx, hy => by
    obtain ⟨dx, hdx, hx⟩ := hx
    obtain ⟨dy, hdy, hy⟩ := hy
    rw [hdx] at hdy
    cases hdy
    simp only [eqP, hdx] at h
    split at h
    · rename_i fs he
      cases he
      simp only [agD, if_true] at hx hy
      obtain ⟨us, rfl, hxa⟩ := hx
      obtain ⟨vs, rfl, hya⟩ := hy
      split at h
      · cases h
      · rename_i hst
        obtain ⟨b, h1, h2⟩ := eqFs_ok (P := P) (w := w) (m := m + d) (fun t xs ys ps u v h hx hy => eqP_ok d m t xs ys ps u v h hx hy) hxa hya fs.toList ps h
        refine ⟨b, ?_, h2⟩
        have hf : P.fieldsOf t = fs := by simp [Program.fieldsOf, hdx]
        rw [← Nat.add_assoc, run_equalIn_struct w (m + d) t us.toArray vs.toArray (by rw [hf]; exact hdx) (by simpa using hst), hf]
        exact h1
    · rename_i n e he
      cases he
      simp only [agD, if_true] at hx hy
      obtain ⟨us, rfl, hxa⟩ := hx
      obtain ⟨vs, rfl, hya⟩ := hy
      split at h
      · rename_i inf hi
        obtain ⟨b, h1, h2⟩ := eqIs_ok (P := P) (w := w) (m := m + d) (fun xs ys ps u v h hx hy => eqP_ok d m e xs ys ps u v h hx hy) hxa hya _ ps h
        refine ⟨b, ?_, h2⟩
        rw [← Nat.add_assoc, run_equalIn_array w (m + d) us.toArray vs.toArray hdx hi]
        exact h1
      · cases h
    · rename_i dd hns hna he
      cases he
      have hag : agD dx = false := by
        cases dx <;> first | rfl | exact absurd rfl (hns _) | exact absurd rfl (hna _ _)
      simp only [hag, Bool.false_eq_true, if_false] at hx hy
      obtain ⟨c1, rfl, hc1⟩ := hx
      obtain ⟨c2, rfl, hc2⟩ := hy
      simp only [] at h
      split at h
      · rename_i p hp
        cases h
        obtain ⟨b, h1, h2⟩ := eqLeaf_ok (w := w) hdx hp hc1 hc2 (m + d)
        exact ⟨b, by rw [← Nat.add_assoc]; exact h1, by simpa [conjP] using h2⟩
      · cases h
    · rename_i he
      cases he

def eqOut (P : Program) (op : BinOp) (t : TypeId) (xs ys : List SC) : Out SV :=
  if P.eqGuardType P.depth t then .fail else
  match P.underlying t, eqP P 20 t xs ys with
  | some d, some ps => if agD d then
      match op with
      | .eql => .br (conjP ps) oT oF
      | .neq => .br (conjP ps) oF oT
      | _ => .fail
    else .fail
  | _, _ => .fail
theorem eq_ok {μ : Mu} {P : Program} {w : World} {K : SV → Prop} {op : BinOp} {t : TypeId} {x y : Operand} {xs ys : List SC} {us vs : List Value} (hx : All2 (SC.ok μ) xs us) (hy : All2 (SC.ok μ) ys vs) (h : (eqOut P op t xs ys).wp K) :
    ∃ z sv, (do eqGuard op t x y (.agg us.toArray) (.agg vs.toArray); binOp op t (.agg us.toArray) (.agg vs.toArray)).run P w = .ok z w ∧ K sv ∧ sv.ok μ z := by
  unfold eqOut at h
  split at h
  · exact h.elim
  · rename_i hg
    split at h
    · rename_i d ps hd hps
      split at h
      · rename_i hag
        have hr := run_eqGuard_agg (P := P) w op t x y us.toArray vs.toArray (by simpa using hg)
        obtain ⟨b, h1, h2⟩ := eqP_ok (P := P) (μ := μ) (w := w) 20 9980 t xs ys ps (.agg us.toArray) (.agg vs.toArray) hps ⟨d, hd, by rw [if_pos hag]; exact ⟨us, rfl, hx⟩⟩ ⟨d, hd, by rw [if_pos hag]; exact ⟨vs, rfl, hy⟩⟩
        have he : (Op.equalIn 10000 t (.agg us.toArray) (.agg vs.toArray)).run P w = .ok b w := h1
        cases op <;> simp only [] at h <;> try exact h.elim
        · refine ⟨.bool b, ?_⟩
          have hb : (do eqGuard .eql t x y (.agg us.toArray) (.agg vs.toArray); binOp .eql t (.agg us.toArray) (.agg vs.toArray) : Sem Value).run P w = .ok (.bool b) w := by
            rw [Sem.run_bind, hr]; simp only [Result.andThen_ok]; rw [run_eql_struct, he]; rfl
          by_cases hc : conjP ps
          · exact ⟨_, hb, h.1 hc, okT (h2.2 hc)⟩
          · exact ⟨_, hb, h.2 hc, okF (by cases b; rfl; exact absurd (h2.1 rfl) hc)⟩
        · refine ⟨.bool (!b), ?_⟩
          have hb : (do eqGuard .neq t x y (.agg us.toArray) (.agg vs.toArray); binOp .neq t (.agg us.toArray) (.agg vs.toArray) : Sem Value).run P w = .ok (.bool (!b)) w := by
            rw [Sem.run_bind, hr]; simp only [Result.andThen_ok]; rw [run_neq_struct, he]; rfl
          by_cases hc : conjP ps
          · exact ⟨_, hb, h.1 hc, okF (by simp [h2.2 hc])⟩
          · exact ⟨_, hb, h.2 hc, okT (by cases b; rfl; exact absurd (h2.1 rfl) hc)⟩
      · exact h.elim
    · exact h.elim

def strEq (op : BinOp) (a b : ByteArray) : Out SV :=
  match op with
  | .eql => .br (a = b) oT oF
  | .neq => .br (a = b) oF oT
  | _ => .fail
theorem str_out_ok {μ : Mu} {P : Program} {w : World} {K : SV → Prop} {op : BinOp} {t : TypeId} {a b : ByteArray} (hu : P.underlying t = some .string) (h : (strEq op a b).wp K) :
    ∃ z sv, (binOp op t (.string a) (.string b)).run P w = .ok z w ∧ K sv ∧ sv.ok μ z := by
  have hb : (a.toList == b.toList) = decide (a = b) := by
    rw [← beq_toListBytes]
    have := beqBytes a b
    by_cases hc : a = b
    · rw [this.2 hc]; simp [hc]
    · have hn : ¬ (a == b) = true := fun h => hc (this.1 h)
      simp at hn
      rw [hn]; simp [hc]
  cases op <;> simp only [strEq] at h <;> try exact h.elim
  · refine ⟨.bool (decide (a = b)), ?_⟩
    have hr : (binOp .eql t (.string a) (.string b)).run P w = .ok (.bool (decide (a = b))) w := by simp [binOp, Op.stringOp, hb]
    obtain ⟨h1, h2⟩ := h
    by_cases hc : a = b
    · exact ⟨_, hr, h1 hc, okT (by simp [hc])⟩
    · exact ⟨_, hr, h2 hc, okF (by simp [hc])⟩
  · refine ⟨.bool (!decide (a = b)), ?_⟩
    have hr : (binOp .neq t (.string a) (.string b)).run P w = .ok (.bool (!decide (a = b))) w := by simp [binOp, Op.stringOp, hb]
    obtain ⟨h1, h2⟩ := h
    by_cases hc : a = b
    · exact ⟨_, hr, h1 hc, okF (by simp [hc])⟩
    · exact ⟨_, hr, h2 hc, okT (by simp [hc])⟩

/-- a struct built of parts -/
def fillS (place : Nat → Option (Nat × Nat)) (cells : List SC) : List (Nat × SV) → Option (List SC)
  | [] => some cells
  | (i, v) :: rest =>
    match place i, v.cells? with
    | some (off, size), some cs => if cs.length = size ∧ off + cs.length ≤ cells.length then fillS place (setAt cells off cs) rest else none
    | _, _ => none
def AllP (μ : Mu) : List (Nat × SV) → List (Nat × Value) → Prop
  | [], [] => True
  | (i, x) :: xs, (j, v) :: vs => i = j ∧ x.ok μ v ∧ AllP μ xs vs
  | _, _ => False
theorem foldl_set (off : Nat) : ∀ (vs : List Value) (k : Nat) (cells : Array Value), off + k + vs.length ≤ cells.size →
    ((vs.zipIdx k).foldl (fun cs (c, j) => cs.setIfInBounds (off + j) c) cells).toList = cells.toList.take (off + k) ++ vs ++ cells.toList.drop (off + k + vs.length)
  | [], k, cells, h => by simp
  | v :: vs, k, cells, h => by
    simp only [List.zipIdx_cons, List.foldl_cons]
    rw [foldl_set off vs (k + 1) (cells.setIfInBounds (off + k) v) (by simp at h ⊢; omega)]
    have := list_seg_step cells.toList (off + k) v vs (by simp at h ⊢; omega)
    simpa [Array.toList_setIfInBounds, Nat.add_assoc] using this
theorem fill_ok {μ : Mu} {place : Nat → Option (Nat × Nat)} : ∀ {parts : List (Nat × SV)} {vparts : List (Nat × Value)} {cells out : List SC} {vs : List Value}, AllP μ parts vparts → All2 (SC.ok μ) cells vs → fillS place cells parts = some out →
    ∃ us : List Value, Instr.fill place vs.toArray vparts = some us.toArray ∧ All2 (SC.ok μ) out us
  | [], [], cells, out, vs, _, ha, h => by cases h; exact ⟨vs, rfl, ha⟩
  | (i, x) :: xs, (j, v) :: rest, cells, out, vs, hp, ha, h => by
    obtain ⟨rfl, hx, hr⟩ := hp
    simp only [fillS] at h
    split at h
    · rename_i off size cs hpl hc
      split at h
      · rename_i hcond
        obtain ⟨h1, h2⟩ := hcond
        have hv := SV.cells_ok hc hx
        have hl := hv.len
        have hal := ha.len
        have hsz : v.cells.size = size := by rw [← h1, ← hl]; simp
        obtain ⟨us, g1, g2⟩ := fill_ok hr (ha.setAt (j := off) hv) h
        refine ⟨us, ?_, g2⟩
        simp only [Instr.fill, hpl]
        rw [if_neg (by simp only [hsz, List.size_toArray]; simp; omega)]
        rw [← g1]
        congr 1
        apply Array.toList_inj.1
        have hf := foldl_set off v.cells.toList 0 vs.toArray (by simp at hl ⊢; omega)
        rw [← Array.foldl_toList, Array.toList_zipIdx, hf]
        simp
      · cases h
    · cases h
  | [], _ :: _, _, _, _, hp, _, _ => hp.elim
  | _ :: _, [], _, _, _, hp, _, _ => hp.elim
def placesL (P : Program) : List Field → Option (List (Nat × Nat))
  | [] => some []
  | f :: fs => match P.info? f.type, placesL P fs with
    | some inf, some l => some ((f.offset, inf.size) :: l)
    | _, _ => none
theorem places_ok {P : Program} {w : World} : ∀ {fs : List Field} {l : List (Nat × Nat)}, placesL P fs = some l → (fs.mapM fun f => Prod.mk f.offset <$> Go.sizeOf f.type).run P w = .ok l w
  | [], l, h => by cases h; rfl
  | f :: fs, l, h => by
    simp only [placesL] at h
    split at h
    · rename_i inf l' hi hl
      cases h
      rw [List.mapM_cons]
      simp [run_sizeOf' hi, places_ok hl]
    · cases h
def buildOut (P : Program) (t : TypeId) (parts : List (Nat × SV)) : Out SV :=
  match P.info? t, P.underlying t with
  | some inf, some (.struct fs) => match inf.zero, placesL P fs.toList with
    | some z, some pl => match constL z.cells.toList with
      | some cs => match fillS (fun i => pl[i]?) cs parts with
        | some out => .ret (.s (.a out))
        | none => .fail
      | none => .fail
    | _, _ => .fail
  | some inf, some (.array n e) => match inf.zero, P.info? e with
    | some z, some ie => match constL z.cells.toList with
      | some cs => match fillS (fun i => some (i * ie.size, ie.size)) cs parts with
        | some out => .ret (.s (.a out))
        | none => .fail
      | none => .fail
    | _, _ => .fail
  | _, _ => .fail
theorem build_ok {μ : Mu} {P : Program} {w : World} {K : SV → Prop} {t : TypeId} {parts : List (Nat × SV)} {vparts : List (Nat × Value)} (hp : AllP μ parts vparts) (h : (buildOut P t parts).wp K) :
    ∃ z sv, (Instr.build t vparts.toArray).run P w = .ok z w ∧ K sv ∧ sv.ok μ z := by
  unfold buildOut at h
  split at h
  · rename_i inf fs hi hu
    split at h
    · rename_i z pl hz hpl
      split at h
      · rename_i cs hcs
        split at h
        · rename_i out hf
          obtain ⟨us, g1, g2⟩ := fill_ok hp (constL_ok hcs) hf
          refine ⟨.agg us.toArray, _, ?_, h, ⟨us, rfl, g2⟩⟩
          have hpl' := places_ok (w := w) hpl
          have hm : (fs.mapM fun f => Prod.mk f.offset <$> Go.sizeOf f.type).run P w = .ok pl.toArray w := by
            rw [Array.mapM_eq_mapM_toList, Sem.run_map, hpl']
            rfl
          have g1' : Instr.fill (fun i => pl[i]?) z.cells vparts = some us.toArray := by rw [← g1]
          simp [Instr.build, zeroValue, typeInfo, hi, hz, run_underlying hu, hm, g1']
        · exact h.elim
      · exact h.elim
    · exact h.elim
  · rename_i inf n e hi hu
    split at h
    · rename_i z ie hz hie
      split at h
      · rename_i cs hcs
        split at h
        · rename_i out hf
          obtain ⟨us, g1, g2⟩ := fill_ok hp (constL_ok hcs) hf
          refine ⟨.agg us.toArray, _, ?_, h, ⟨us, rfl, g2⟩⟩
          have g1' : Instr.fill (fun i => some (i * ie.size, ie.size)) z.cells vparts = some us.toArray := by rw [← g1]
          simp [Instr.build, zeroValue, typeInfo, hi, hz, run_underlying hu, run_sizeOf' hie, g1']
        · exact h.elim
      · exact h.elim
    · exact h.elim
  · exact h.elim
end Go.Proofs.Ytcaipfdnadlkdaa.Sx

namespace Go.Proofs.Ytcaipfdnadlkdaa.Sx
open Go
set_option linter.unusedVariables false
set_option linter.unusedSimpArgs false

def noMu' : Mu := fun _ => none
def valsI (k : IntKind) (L : List Int) : List Value := L.map (Value.int k)
theorem valsI_len (k : IntKind) (L : List Int) : (valsI k L).length = L.length := by simp [valsI]
theorem valsI_get (k : IntKind) (L : List Int) (i : Nat) (h : i < L.length) : (valsI k L)[i]? = some (.int k (L.getD i 0)) := by
  simp [valsI, List.getD_eq_getElem?_getD, h]
theorem valsI_one (k : IntKind) (L : List Int) : ∀ u ∈ valsI k L, u.oneCell' = true := fun u hu => by
  simp [valsI] at hu
  obtain ⟨x, _, rfl⟩ := hu
  rfl
theorem src_of {P : Program} {w : World} {tx el : TypeId} {k : IntKind} {M : List Int} {a : Option Addr} {c : Nat} (ht : P.underlying tx = some (.slice el))
    (h : M.length ≠ 0 → ∃ b o, a = some ⟨b, o, none⟩ ∧ ∀ j, j < M.length → w.cell? ⟨b, o + j, none⟩ = some (.int k (M.getD j 0))) : Src P 1 tx (.slice a M.length c) M.length (valsI k M) w := by
  have cell : ∀ w' : World, (∀ x, w'.cell? x = w.cell? x) → (Builtin.firstCells 1 M.length (.slice a M.length c)).run P w' = .ok (valsI k M).toArray w' := fun w' hw => by
    by_cases h0 : M.length = 0
    · have hM : M = [] := List.eq_nil_of_length_eq_zero h0
      subst hM
      cases a with
      | none => exact run_firstCells_none w' 1 0 0 c
      | some a => exact run_firstCells_some w' 1 0 a 0 c [] (by simp) (by intro _ _ h'; simp at h')
    · obtain ⟨b, o, rfl, hc⟩ := h h0
      refine run_firstCells_some w' 1 M.length ⟨b, o, none⟩ M.length c (valsI k M) (by simp [valsI_len]) fun j u hu => ?_
      have hj : j < M.length := by
        have := (List.getElem?_eq_some_iff.1 hu).1
        simpa [valsI_len] using this
      rw [valsI_get k M j hj] at hu
      cases hu
      rw [Addr.add_lit', hw]
      exact hc j hj
  exact { kind := .inl ⟨el, ht⟩, len := fun w' => by simp [Builtin.lenOf], cells := cell w fun _ => rfl, cellsD := cell w.drew fun _ => rfl, newsLen := by simp [valsI_len], one := valsI_one k M }

structure Frame (w w' : World) (g : Option Nat) : Prop where
  os : w'.os = w.os
  tape : w'.tape = w.tape
  output : w'.output = w.output
  size : w.heap.size ≤ w'.heap.size
  keep : ∀ x, x < w.heap.size → g ≠ some x → w'.heap[x]? = w.heap[x]?

theorem append_core {P : Program} {w : World} {t tx ty el : TypeId} {inf : TypeInfo} {z : Value} (ht : P.underlying t = some (.slice el)) (hi : P.info? el = some inf) (hz : inf.zero = some z) (hz1 : z.cells.size = 1) (h1 : inf.size = 1)
    {ao : Option Addr} {g o n c : Nat} {cur : Array Value} {tc : TypeId} {xs news : List Value} {x : Value} {m : Nat} (hn : xs.length = n) (hnc : n ≤ c) (hcm : c ≤ maxLen)
    (hrow : 0 < c → ao = some ⟨g, o, none⟩ ∧ w.heap[g]? = some (.cells cur tc (0, 0)) ∧ o + c ≤ cur.size ∧ ∀ i, i < n → cur[o + i]? = xs[i]?)
    (hs : Src P 1 tx x m news w) (hb : (n + m) * inf.bytes ≤ 140737488355328) (hmax : n + m ≤ maxLen) :
    ∃ ao' g' o' c' w', (Builtin.append_ #[t, tx] ty #[.slice ao n c, x]).run P w = .ok (.slice ao' (n + m) c') w' ∧ n + m ≤ c' ∧ c' ≤ maxLen ∧
      (0 < c' → ao' = some ⟨g', o', none⟩ ∧ (∃ cur' tt, w'.heap[g']? = some (.cells cur' tt (0, 0)) ∧ o' + c' ≤ cur'.size ∧ ∀ i, i < n + m → cur'[o' + i]? = (xs ++ news)[i]?) ∧ ((0 < c ∧ g' = g) ∨ w.heap.size ≤ g')) ∧
      Frame w w' (if 0 < c then some g else none) := by
  have hml : news.length = m := by have := hs.newsLen; omega
  by_cases hroom : n + m ≤ c
  · by_cases hc0 : 0 < c
    · obtain ⟨rfl, hg, hsz, hat⟩ := hrow hc0
      have hst := run_storeCells_at P g (o + n) tc news 0 cur w hg (by omega) hs.one
      refine ⟨some ⟨g, o, none⟩, g, o, c, w.setRow g (cur.toList.take (o + n + 0) ++ news ++ cur.toList.drop (o + n + 0 + news.length)).toArray, ?_, hroom, hcm, fun _ => ⟨rfl, ⟨_, tc, setRow_heap w g _ _ tc _ hg, ?_, ?_⟩, .inl ⟨hc0, rfl⟩⟩, ⟨rfl, rfl, rfl, by simp [World.setRow], fun y hy hne => setRow_keep w g y _ fun e => hne (by rw [if_pos hc0, e])⟩⟩
      · have hc1 := hs.cells
        rcases hs.kind with ⟨e', hk⟩ | hk <;> simp [Builtin.append_, run_underlying ht, run_underlying hk, Go.sizeOf, typeInfo, hi, h1, hs.len, hroom, hc1, Addr.add_lit, hst]
      · simp; omega
      · intro i hi'
        simp only [List.getElem?_toArray, Nat.add_zero]
        rw [splice_get _ _ _ _ (by simp; omega)]
        by_cases hin : i < n
        · rw [if_pos (by omega), List.getElem?_append_left (by omega)]
          simpa using hat i hin
        · rw [if_neg (by omega), if_pos (by omega), List.getElem?_append_right (by omega)]
          congr 1
          omega
    · have hn0 : n = 0 := by omega
      have hm0 : m = 0 := by omega
      have hcz : c = 0 := by omega
      subst hn0; subst hm0; subst hcz
      have hnil : news = [] := List.eq_nil_of_length_eq_zero hml
      subst hnil
      refine ⟨ao, g, o, 0, w, ?_, Nat.zero_le _, Nat.zero_le _, fun h => by omega, ⟨rfl, rfl, rfl, Nat.le_refl _, fun _ _ _ => rfl⟩⟩
      have hc1 := hs.cells
      rcases hs.kind with ⟨e', hk⟩ | hk <;> cases ao <;> simp [Builtin.append_, run_underlying ht, run_underlying hk, Go.sizeOf, typeInfo, hi, h1, hs.len, hc1, storeCells]
  · have hg : c < n + m := by omega
    have hold : (Builtin.firstCells inf.size n (.slice ao n c)).run P w.drew = .ok xs.toArray w.drew := by
      rw [h1]
      by_cases hc0 : 0 < c
      · obtain ⟨rfl, hg', hsz, hat⟩ := hrow hc0
        refine run_firstCells_some w.drew 1 n ⟨g, o, none⟩ n c xs (by omega) fun j u hu => ?_
        have hj : j < n := by
          have := (List.getElem?_eq_some_iff.1 hu).1
          omega
        rw [Addr.add_lit']
        show w.cell? ⟨g, o + j, none⟩ = some u
        simp only [World.cell?, hg']
        simp only [Option.isSome_none, Bool.false_eq_true, if_false]
        rw [hat j hj, hu]
      · have hn0 : n = 0 := by omega
        subst hn0
        have hx0 : xs = [] := List.eq_nil_of_length_eq_zero hn
        subst hx0
        cases ao with
        | none => exact run_firstCells_none w.drew 1 0 0 c
        | some a => exact run_firstCells_some w.drew 1 0 a 0 c [] (by simp) (by intro _ _ h'; simp at h')
    have hs' : Src P inf.size tx x m news w := by rw [h1]; exact hs
    have hsmall : ((n + m : Nat) : Int) ≤ 9223372036854775807 := by simp only [maxLen] at hmax; omega
    have hr := run_append_grow_src (P := P) w t tx ty el inf z ht hi hz ao n c xs hold x m news hs' hg hsmall (growslice_fits hg hb)
    have hge := grownCap_ge w (n + m) c el
    refine ⟨_, w.heap.size, 0, _, _, hr, hge, grownCap_le_maxLen w (n + m) c el hmax, fun _ => ⟨rfl, ⟨_, _, heap_alloc_new w.drew _, ?_, ?_⟩, .inr (Nat.le_refl _)⟩, ⟨rfl, rfl, rfl, by simp, fun y hy _ => by first | exact heap_alloc_old w.drew _ y hy | exact heap_alloc_old w.drew _ hy⟩⟩
    · simp only [Array.size_append, List.size_toArray, size_zeroCells, hz1, List.length_append]
      omega
    · intro i hi'
      rw [Nat.zero_add, Array.getElem?_append_left (by simp; omega)]
      simp

/-! ### as a request -/
def intsC (k : IntKind) : List SC → Option (List Int)
  | [] => some []
  | c :: cs => match intC k c, intsC k cs with
    | some x, some xs => some (x :: xs)
    | _, _ => none
theorem intsC_ok {μ : Mu} {k : IntKind} : ∀ {cs : List SC} {xs : List Int} {vs : List Value}, intsC k cs = some xs → All2 (SC.ok μ) cs vs → vs = valsI k xs
  | [], xs, [], h, _ => by cases h; rfl
  | c :: cs, xs, v :: vs, h, ha => by
    simp only [intsC] at h
    split at h
    · rename_i x ys h1 h2
      cases h
      rw [intC_ok h1 ha.1, intsC_ok h2 ha.2]
      rfl
    · cases h
  | [], _, _ :: _, _, ha => ha.elim
  | _ :: _, _, [], _, ha => ha.elim
def dstN : SV → List Nat
  | .s (.c (.own b _ _ _)) => [b]
  | .s (.c (.sli b _ _ _ _ _ _)) => [b]
  | _ => []
def dstL (k : IntKind) (x : SV) (bl : Option (Option Blk)) : Option (List Int) :=
  match x with
  | .s (.c .nos) => some []
  | .s (.c (.own _ _ _ _)) => match bl with
    | some (some (.oints k' L)) => if k' = k then some L else none
    | _ => none
  | .s (.c (.sli _ _ e j n c q)) => match bl with
    | some (some (.cells _ cs)) => if e == 0 && (q && decide (j + c ≤ cs.length)) then intsC k ((cs.drop j).take n) else none
    | _ => none
  | _ => none
def srcL (k : IntKind) (x : SV) (bl : Option (Option Blk)) : Option (Option Prop × List Int) :=
  match x with
  | .s (.c .nos) => some (none, [])
  | .s (.c (.own _ _ _ _)) => match bl with
    | some (some (.oints k' L)) => if k' = k then some (none, L) else none
    | _ => none
  | .s (.c (.sli _ i e j n c q)) => match bl with
    | some (some (.cells _ cs)) => if e == 0 && (q && decide (j + n ≤ cs.length)) then match intsC k ((cs.drop j).take n) with
        | some M => some (none, M)
        | none => none
      else none
    | some (some (.ints k' L)) => if k' = k ∧ e = 1 ∧ j = 0 then some (some (i + n ≤ L.length), (L.drop i).take n) else none
    | some (some (.oints k' L)) => if k' = k ∧ e = 1 ∧ j = 0 then some (some (i + n ≤ L.length), (L.drop i).take n) else none
    | _ => none
  | _ => none
def one1 (z : Option Value) : Bool :=
  match z with
  | some z => z.cells.size == 1
  | none => false
def headO {α : Type} : List α → Option α
  | [] => none
  | x :: _ => some x
def appOut (base : Nat) (inf : TypeInfo) (k : IntKind) (ws : List (Option Blk)) (L M : List Int) (p : Option Prop) : Out Res :=
  oAst p (.ast ((L ++ M).length * inf.bytes ≤ 140737488355328) (.all (fun c' => (L ++ M).length ≤ c') ⟨_, Nat.le_refl _⟩ fun c' => .ret ⟨one (.own base (L ++ M).length c' false), ws, [.oints k (L ++ M)]⟩))
def appendReq (P : Program) (base : Nat) (t tx : TypeId) (x y : SV) : Req :=
  match P.underlying t, P.underlying tx with
  | some (.slice el), some (.slice _) => match P.info? el, P.underlying el with
    | some inf, some (.int k) =>
      if inf.size == 1 && (one1 inf.zero && decide (0 < inf.bytes)) then
        match dstN x, dstN y with
        | [], [] => ⟨[], [], fun _ => match dstL k x none, srcL k y none with
          | some L, some (p, M) => appOut base inf k [] L M p
          | _, _ => .fail⟩
        | [], [b] => ⟨[b], [], fun bl => match dstL k x none, srcL k y (headO bl) with
          | some L, some (p, M) => appOut base inf k [] L M p
          | _, _ => .fail⟩
        | [a], [] => ⟨[], [a], fun bl => match dstL k x (headO bl), srcL k y none with
          | some L, some (p, M) => appOut base inf k [none] L M p
          | _, _ => .fail⟩
        | [a], [b] => ⟨[b], [a], fun bl => match bl with
          | [bb, ab] => match dstL k x (some ab), srcL k y (some bb) with
            | some L, some (p, M) => appOut base inf k [none] L M p
            | _, _ => .fail
          | _ => .fail⟩
        | _, _ => Req.fail
      else Req.fail
    | _, _ => Req.fail
  | _, _ => Req.fail
/-- what stands behind a row that is appended to -/
def DstOk (μ : Mu) (h : Nat → Option Blk) (w : World) (k : IntKind) (names : List Nat) (u : Value) (L : List Int) : Prop :=
  ∃ ao g o c cur tc, u = .slice ao L.length c ∧ L.length ≤ c ∧ c ≤ maxLen ∧ (0 < c → ao = some ⟨g, o, none⟩ ∧ w.heap[g]? = some (.cells cur tc (0, 0)) ∧ o + c ≤ cur.size ∧ (∀ i, i < L.length → cur[o + i]? = (valsI k L)[i]?) ∧
    ∃ b bk l, names = [b] ∧ h b = some bk ∧ μ b = some l ∧ bk.excl w l g)
theorem own_vals {μ : Mu} {w : World} {l : Loc} {tt : TypeId} {k : IntKind} {L : List Int} (h : ownOk μ w l tt 1 L.length (intsF k L)) :
    ∃ a c, l.hd = .slice a L.length c ∧ L.length ≤ c ∧ c ≤ maxLen ∧ (0 < c → a = some ⟨l.b, l.off, none⟩ ∧ ∃ cur : Array Value, w.heap[l.b]? = some (.cells cur tt (0, 0)) ∧ l.off + c ≤ cur.size ∧ ∀ x, x < L.length → cur[l.off + x]? = some (.int k (L.getD x 0))) := by
  obtain ⟨a, c, xs, h1, h2, h3, h4, h5, h6⟩ := h
  refine ⟨a, c, h1, h2, h3, fun hc => ?_⟩
  obtain ⟨ha, cur, hcur, hsz, hat⟩ := h5 hc
  refine ⟨ha, cur, hcur, by simpa using hsz, fun x hx => ?_⟩
  rw [hat x (by simpa using hx)]
  obtain ⟨_, g⟩ := h6 x hx
  obtain ⟨v, hv, hok⟩ := g 0 _ rfl
  simp at hv
  rw [hv, show v = .int k (L.getD x 0) from hok]
theorem dst_ok {μ : Mu} {h : Nat → Option Blk} {w : World} {k : IntKind} {x : SV} {u : Value} {L : List Int} (hm : HeapM μ h w) (hx : x.ok μ u) {bl : Option (Option Blk)} (hbl : bl = none ∨ ∃ b, dstN x = [b] ∧ bl = some (h b)) (hd : dstL k x bl = some L) : DstOk μ h w k (dstN x) u L := by
  unfold dstL at hd
  split at hd
  · cases hd
    obtain ⟨a, rfl⟩ := hx
    exact ⟨a, 0, 0, 0, #[], 0, rfl, Nat.le_refl _, Nat.zero_le _, fun h => by omega⟩
  · rename_i b n c q
    split at hd
    · rename_i k' L'
      split at hd
      · rename_i hk
        cases hd
        subst hk
        rcases hbl with hbl | ⟨b', hb', hbl⟩
        · cases hbl
        · simp [dstN] at hb'
          subst hb'
          have hb : h b = some (.oints k' L) := (Option.some.inj hbl).symm
          obtain ⟨l, a, hl, rfl, _⟩ := hx
          obtain ⟨l', hl', tt, hok⟩ := hm.ok b _ hb
          rw [hl] at hl'; cases hl'
          obtain ⟨a', c', e1, e2, e3, e4⟩ := own_vals hok
          by_cases hc : 0 < c'
          · obtain ⟨ha, cur, hcur, hsz, hat⟩ := e4 hc
            refine ⟨a', l.b, l.off, c', cur, tt, e1, e2, e3, fun _ => ⟨ha, hcur, hsz, fun i hi => by rw [hat i hi, valsI_get _ _ _ hi], b, _, l, rfl, hb, hl, ?_⟩⟩
            have : Value.noRow l.hd = false := by
              rw [e1]
              cases c' with
              | zero => omega
              | succ c => rfl
            exact ⟨this, rfl⟩
          · exact ⟨a', 0, 0, c', #[], 0, e1, e2, e3, fun h => absurd h hc⟩
      · cases hd
    · cases hd
  · rename_i b i e j n c q
    split at hd
    · rename_i t cs
      split at hd
      · rename_i hcond
        simp at hcond
        obtain ⟨rfl, rfl, hle⟩ := hcond
        rcases hbl with hbl | ⟨b', hb', hbl⟩
        · cases hbl
        · simp [dstN] at hb'
          subst hb'
          have hb : h b = some (.cells t cs) := (Option.some.inj hbl).symm
          obtain ⟨l, a, hl, rfl, ha, hnc, hcm⟩ := hx
          obtain ⟨l', hl', h0, vs, hv, hall⟩ := hm.ok b _ hb
          rw [hl] at hl'; cases hl'
          have hsub : All2 (SC.ok μ) ((cs.drop j).take n) ((vs.drop j).take n) := (hall.drop j).take n
          have hvals := intsC_ok hd hsub
          have hlen : L.length = n := by
            have h1 := congrArg List.length hvals
            have h2 := hall.len
            simp [valsI_len] at h1
            omega
          subst hlen
          refine ⟨a, l.b, j, c, vs.toArray, t, rfl, hnc, hcm, fun hc => ⟨?_, hv, ?_, fun i hi => ?_, b, _, l, rfl, hb, hl, rfl⟩⟩
          · rw [ha hc, h0]; simp
          · have := hall.len; simp; omega
          · rw [← hvals]
            simp [List.getElem?_take, hi, List.getElem?_drop]
      · cases hd
    · cases hd
  · cases hd
theorem src_ok {P : Program} {μ : Mu} {h : Nat → Option Blk} {w : World} {k : IntKind} {tx el : TypeId} {x : SV} {u : Value} {p : Option Prop} {M : List Int} (ht : P.underlying tx = some (.slice el)) (hm : HeapM μ h w) (hx : x.ok μ u) {bl : Option (Option Blk)} (hbl : bl = none ∨ ∃ b, dstN x = [b] ∧ bl = some (h b)) (hd : srcL k x bl = some (p, M)) (hp : holds p) :
    Src P 1 tx u M.length (valsI k M) w := by
  have sub : ∀ {b i n c : Nat} {l : Loc} {a : Option Addr} {L : List Int}, i + n ≤ L.length → (0 < c → a = some ⟨l.b, l.off + (i * 1 + 0), none⟩) → n ≤ c → (∀ j, j < L.length → w.cell? ⟨l.b, l.off + j, none⟩ = some (.int k (L.getD j 0))) → Src P 1 tx (.slice a n c) ((L.drop i).take n).length (valsI k ((L.drop i).take n)) w := by
    intro b i n c l a L hle ha hnc hcell
    have hlen : ((L.drop i).take n).length = n := by simp; omega
    have := src_of (P := P) (w := w) (k := k) (M := (L.drop i).take n) (a := a) (c := c) ht fun hne => ⟨l.b, l.off + i, by simpa using ha (by omega), fun j hj => by
      have hc := hcell (i + j) (by omega)
      rw [Nat.add_assoc, hc]
      congr 2
      simp only [List.getD_eq_getElem?_getD]
      rw [List.getElem?_take_of_lt (by omega), List.getElem?_drop]⟩
    rw [hlen] at this
    rw [hlen]
    exact this
  unfold srcL at hd
  split at hd
  · cases hd
    obtain ⟨a, rfl⟩ := hx
    exact src_of (M := []) ht fun h => absurd rfl h
  · rename_i b n c q
    split at hd
    · rename_i k' L'
      split at hd
      · rename_i hk
        cases hd
        subst hk
        rcases hbl with hbl | ⟨b', hb', hbl⟩
        · cases hbl
        · simp [dstN] at hb'
          subst hb'
          have hb : h b = some (.oints k' M) := (Option.some.inj hbl).symm
          obtain ⟨l, a, hl, rfl, _⟩ := hx
          obtain ⟨l', hl', tt, hok⟩ := hm.ok b _ hb
          rw [hl] at hl'; cases hl'
          obtain ⟨a', c', e1, e2, e3, e4⟩ := own_vals hok
          rw [e1]
          refine src_of ht fun hne => ?_
          obtain ⟨ha, cur, hcur, hsz, hat⟩ := e4 (by omega)
          refine ⟨l.b, l.off, ha, fun j hj => ?_⟩
          simp only [World.cell?, hcur]
          simp only [Option.isSome_none, Bool.false_eq_true, if_false]
          exact hat j hj
      · cases hd
    · cases hd
  · rename_i b i e j n c q
    split at hd
    · rename_i t cs
      split at hd
      · rename_i hcond
        simp at hcond
        obtain ⟨rfl, rfl, hle⟩ := hcond
        split at hd
        · rename_i M' hM
          cases hd
          rcases hbl with hbl | ⟨b', hb', hbl⟩
          · cases hbl
          · simp [dstN] at hb'
            subst hb'
            have hb : h b = some (.cells t cs) := (Option.some.inj hbl).symm
            obtain ⟨l, a, hl, rfl, ha, hnc, hcm⟩ := hx
            obtain ⟨l', hl', h0, vs, hv, hall⟩ := hm.ok b _ hb
            rw [hl] at hl'; cases hl'
            have hvals := intsC_ok hM ((hall.drop j).take n)
            have hlen : M.length = n := by
              have h1 := congrArg List.length hvals
              have h2 := hall.len
              simp [valsI_len] at h1
              omega
            subst hlen
            refine src_of ht fun hne => ⟨l.b, j, by rw [ha (by omega), h0]; simp, fun y hy => ?_⟩
            have := congrArg (fun l => l[y]?) hvals
            simp only [valsI_get _ _ _ hy] at this
            rw [List.getElem?_take_of_lt hy, List.getElem?_drop] at this
            simp [World.cell?, hv, this]
        · cases hd
      · cases hd
    · rename_i k' L
      split at hd
      · rename_i hcond
        obtain ⟨rfl, rfl, rfl⟩ := hcond
        cases hd
        rcases hbl with hbl | ⟨b', hb', hbl⟩
        · cases hbl
        · simp [dstN] at hb'
          subst hb'
          have hb : h b = some (.ints k' L) := (Option.some.inj hbl).symm
          obtain ⟨l, a, hl, rfl, ha, hnc, hcm⟩ := hx
          obtain ⟨l', hl', hok⟩ := hm.ok b _ hb
          rw [hl] at hl'; cases hl'
          refine sub (b := b) hp ha hnc fun y hy => ?_
          obtain ⟨_, g⟩ := hok.2 y hy
          obtain ⟨v, hv, hokv⟩ := g 0 _ rfl
          have hv' : w.cell? ⟨l.b, l.off + y, none⟩ = some v := by simpa using hv
          rw [hv', show v = .int k' (L.getD y 0) from hokv]
      · cases hd
    · rename_i k' L
      split at hd
      · rename_i hcond
        obtain ⟨rfl, rfl, rfl⟩ := hcond
        cases hd
        rcases hbl with hbl | ⟨b', hb', hbl⟩
        · cases hbl
        · simp [dstN] at hb'
          subst hb'
          have hb : h b = some (.oints k' L) := (Option.some.inj hbl).symm
          obtain ⟨l, a, hl, rfl, ha, hnc, hcm⟩ := hx
          obtain ⟨l', hl', tt, hok⟩ := hm.ok b _ hb
          rw [hl] at hl'; cases hl'
          obtain ⟨a', c', e1, e2, e3, e4⟩ := own_vals hok
          refine sub (b := b) hp ha hnc fun y hy => ?_
          obtain ⟨_, cur, hcur, hsz, hat⟩ := e4 (by omega)
          simp only [World.cell?, hcur]
          simp only [Option.isSome_none, Bool.false_eq_true, if_false]
          exact hat y hy
      · cases hd
    · cases hd
  · cases hd
/-- the new row, named -/
theorem app_snd {P : Program} {μ : Mu} {h : Nat → Option Blk} {w : World} {base : Nat} {t tx ty el : TypeId} {inf : TypeInfo} {k : IntKind} {L M : List Int} {u v : Value} {names : List Nat} {ws : List (Option Blk)} {p : Option Prop} {K : Res → Prop}
    (hf : ∀ n ∈ freshN base, μ n = none) (ht : P.underlying t = some (.slice el)) (hi : P.info? el = some inf) (hs1 : inf.size = 1) (hz1 : one1 inf.zero = true) (hb0 : 0 < inf.bytes)
    (hd : DstOk μ h w k names u L) (hs : holds p → Src P 1 tx v M.length (valsI k M) w) (hw : (names = [] ∧ ws = []) ∨ ∃ a, names = [a] ∧ ws = [none]) (hk : (appOut base inf k ws L M p).wp K) :
    ∃ z w' μ' res, (Builtin.append_ #[t, tx] ty #[u, v]).run P w = .ok z w' ∧ K res ∧ Eff μ μ' h w base names res z w' := by
  unfold appOut at hk
  obtain ⟨hp, hk⟩ := oAst_ok hk
  obtain ⟨⟨hby⟩, hk⟩ := hk
  obtain ⟨ao, g, o, c, cur, tc, rfl, hnc, hcm, hrow⟩ := hd
  have hz : ∃ z, inf.zero = some z ∧ z.cells.size = 1 := by
    unfold one1 at hz1
    split at hz1
    · rename_i z hz; exact ⟨z, hz, by simpa using hz1⟩
    · cases hz1
  obtain ⟨z, hz, hzs⟩ := hz
  rw [List.length_append] at hby
  have hmax : L.length + M.length ≤ maxLen := by
    have : L.length + M.length ≤ (L.length + M.length) * inf.bytes := Nat.le_mul_of_pos_right _ hb0
    simp only [maxLen]
    omega
  obtain ⟨ao', g', o', c', w', hr, hge, hcm', hnew, hfr⟩ := append_core (P := P) (w := w) (t := t) (tx := tx) (ty := ty) ht hi hz hzs hs1 (ao := ao) (g := g) (o := o) (c := c) (cur := cur) (tc := tc) (xs := valsI k L) (news := valsI k M) (x := v) (m := M.length) (valsI_len k L) hnc hcm
    (fun hc => by obtain ⟨a1, a2, a3, a4, _⟩ := hrow hc; exact ⟨a1, a2, a3, a4⟩) (hs hp) hby hmax
  have hb : μ base = none := hf base (by simp [freshN])
  let l' : Loc := ⟨g', o', .slice ao' (L.length + M.length) c'⟩
  let μ' : Mu := fun n => if n = base then some l' else μ n
  have hext : Ext μ μ' := fun n l hl => by
    by_cases hn : n = base
    · subst hn; rw [hb] at hl; cases hl
    · simp [μ', hn, hl]
  have hK := hk c' (by rw [List.length_append]; exact hge)
  refine ⟨_, w', μ', _, hr, hK, { ext := hext, dom := fun n l hl => ?_, val := ⟨l', ao', by simp [μ'], rfl, by simp [l'], fun hc => (hnew hc).1, by simpa using hge, hcm'⟩, os := hfr.os, tape := hfr.tape, output := hfr.output, size := hfr.size, keep := fun x hx hne => hfr.keep x hx fun e => ?_, wrs := ?_, wsl := ?_, nsl := by simp, olds := fun j n b' h1 h2 => ?_, news := fun j b hj => ?_, newsApart := fun j k b c l m x hne hj hk' => ?_ }⟩
  · by_cases hn : n = base
    · right; simp [freshN, hn]
    · left; simpa [μ', hn] using hl
  · split at e
    · rename_i hc
      obtain ⟨_, _, _, _, b, bk, l, hn, hb', hl, hex⟩ := hrow hc
      cases e
      exact hne b bk l (by rw [hn]; simp) hb' hl hex
    · cases e
  · rcases hw with ⟨rfl, _⟩ | ⟨a, rfl, _⟩ <;> simp
  · rcases hw with ⟨rfl, rfl⟩ | ⟨a, rfl, rfl⟩ <;> rfl
  · rcases hw with ⟨rfl, rfl⟩ | ⟨a, rfl, rfl⟩
    · simp at h1
    · match j, h2 with
      | 0, h2 => simp at h2
      | j + 1, h2 => simp at h2
  · match j, hj with
    | 0, hj =>
      simp at hj
      subst hj
      refine ⟨l', by simp [μ'], ⟨?t, ao', c', valsI k (L ++ M), by simp [l'], by simpa using hge, hcm', by simp [valsI_len], fun hc => ?row, fun i hi' => ⟨rfl, fun j c hc => ?el⟩⟩, fun x hx => ?use⟩
      case t => exact if hc : 0 < c' then ((hnew hc).2.1).choose_spec.choose else 0
      case row =>
        have q := (hnew hc).2.1
        refine ⟨(hnew hc).1, q.choose, ?_, ?_, ?_⟩
        · have := q.choose_spec.choose_spec.1
          simp only [hc, dif_pos]
          exact this
        · simpa using q.choose_spec.choose_spec.2.1
        · intro x hx
          have := q.choose_spec.choose_spec.2.2 x (by simpa using hx)
          rw [this]
          simp [valsI]
      case el =>
        match j, hc with
        | 0, hc =>
          simp [intsF] at hc
          subst hc
          refine ⟨_, by simpa using valsI_get k (L ++ M) i hi', ?_⟩
          simp [SC.ok, List.getD_eq_getElem?_getD]
        | j + 1, hc => simp [intsF] at hc
      case use =>
        have hc : 0 < c' := by
          rcases Nat.eq_zero_or_pos c' with h0 | h0
          · have h1 : Value.noRow l'.hd = false := hx.1
            simp [l', h0, Value.noRow] at h1
          · exact h0
        have hno : Value.noRow l'.hd = false := by
          cases c' with
          | zero => omega
          | succ c => rfl
        have hxg : x = g' := by have h1 : l'.b = x := hx.2; exact h1.symm
        subst hxg
        rcases (hnew hc).2.2 with ⟨hc0, rfl⟩ | hge'
        · right
          obtain ⟨_, _, _, _, b, bk, l, hn, hb', hl, hex⟩ := hrow hc0
          rcases hw with ⟨h0, _⟩ | ⟨a, ha, hws⟩
          · rw [h0] at hn; cases hn
          · rw [hn] at ha; cases ha
            exact ⟨0, b, bk, l, by rw [hn]; rfl, by rw [hws]; rfl, hb', hl, hex⟩
        · left; exact hge'
    | j + 1, hj => simp at hj
  · match j, k, hj, hk' with
    | 0, 0, _, _ => exact absurd rfl hne
    | j + 1, _, hj, _ => simp at hj
    | 0, k + 1, _, hk' => simp at hk'
theorem append_ok {P : Program} {μ : Mu} {h : Nat → Option Blk} {w : World} {base : Nat} {t tx ty : TypeId} {x y : SV} {u v : Value} (hm : HeapM μ h w) (hf : ∀ n ∈ freshN base, μ n = none) (hx : x.ok μ u) (hy : y.ok μ v) :
    Snd P μ h w base (appendReq P base t tx x y) (Builtin.append_ #[t, tx] ty #[u, v]) := by
  intro K hk
  unfold appendReq at hk ⊢
  split at hk
  · rename_i el el2 ht htx
    split at hk
    · rename_i inf k hi hu
      split at hk
      · rename_i hcond
        have hc2 := hcond
        simp at hcond
        obtain ⟨hs1, hz1, hb0⟩ := hcond
        rw [if_pos hc2]
        split at hk
        · rename_i hx0 hy0
          simp only [Req.pre] at hk
          split at hk
          · rename_i L p M hL hM
            have hd := dst_ok hm hx (.inl rfl) hL
            rw [hx0] at hd
            exact app_snd hf ht hi hs1 hz1 hb0 hd (fun hp => src_ok htx hm hy (.inl rfl) hM hp) (.inl ⟨rfl, rfl⟩) hk
          · exact hk.elim
        · rename_i b hx0 hy0
          simp only [Req.pre] at hk
          split at hk
          · rename_i L p M hL hM
            have hd := dst_ok hm hx (.inl rfl) hL
            rw [hx0] at hd
            exact app_snd hf ht hi hs1 hz1 hb0 hd (fun hp => src_ok htx hm hy (.inr ⟨b, hy0, rfl⟩) hM hp) (.inl ⟨rfl, rfl⟩) hk
          · exact hk.elim
        · rename_i a hx0 hy0
          simp only [Req.pre] at hk
          split at hk
          · rename_i L p M hL hM
            have hd := dst_ok hm hx (.inr ⟨a, hx0, rfl⟩) hL
            rw [hx0] at hd
            exact app_snd hf ht hi hs1 hz1 hb0 hd (fun hp => src_ok htx hm hy (.inl rfl) hM hp) (.inr ⟨a, rfl, rfl⟩) hk
          · exact hk.elim
        · rename_i a b hx0 hy0
          simp only [Req.pre, List.cons_append, List.nil_append, List.map_cons, List.map_nil] at hk
          split at hk
          · rename_i L p M hL hM
            have hd := dst_ok hm hx (.inr ⟨a, hx0, rfl⟩) hL
            rw [hx0] at hd
            exact app_snd hf ht hi hs1 hz1 hb0 hd (fun hp => src_ok htx hm hy (.inr ⟨b, hy0, rfl⟩) hM hp) (.inr ⟨a, rfl, rfl⟩) hk
          · exact hk.elim
        · exact hk.elim
      · exact hk.elim
    · exact hk.elim
  · exact hk.elim
theorem row_new {μ ν : Mu} {h : Nat → Option Blk} {w : World} {k : IntKind} {names : List Nat} {u : Value} {L : List Int} (hd : DstOk μ h w k names u L) :
    ∃ l c, u = l.hd ∧ l.hd = .slice (match l.hd with | .slice a _ _ => a | _ => none) L.length c ∧ L.length ≤ c ∧ c ≤ maxLen ∧ (0 < c → (match l.hd with | .slice a _ _ => a | _ => none) = some ⟨l.b, l.off, none⟩) ∧ (Blk.oints k L).ok ν w l ∧
      ∀ x, (Blk.oints k L).uses w l x → ∃ b bk m, names = [b] ∧ h b = some bk ∧ μ b = some m ∧ bk.excl w m x := by
  obtain ⟨ao, g, o, c, cur, tc, rfl, h1, h2, h3⟩ := hd
  refine ⟨⟨g, o, .slice ao L.length c⟩, c, rfl, rfl, h1, h2, fun hc => (h3 hc).1, ⟨tc, ao, c, valsI k L, rfl, h1, h2, by simp [valsI_len], fun hc => ?_, fun i hi => ⟨rfl, fun j c' hc' => ?_⟩⟩, fun x hx => ?_⟩
  · obtain ⟨a1, a2, a3, a4, _⟩ := h3 hc
    exact ⟨a1, cur, a2, by simpa using a3, fun x hx => a4 x (by simpa using hx)⟩
  · match j, hc' with
    | 0, hc' =>
      simp [intsF] at hc'
      subst hc'
      exact ⟨_, by simpa using valsI_get k L i hi, by simp [SC.ok, List.getD_eq_getElem?_getD]⟩
    | j + 1, hc' => simp [intsF] at hc'
  · have hc : 0 < c := by
      rcases Nat.eq_zero_or_pos c with h0 | h0
      · have h1 : Value.noRow (.slice ao L.length c) = false := hx.1
        simp [h0, Value.noRow] at h1
      · exact h0
    have hno : Value.noRow (.slice ao L.length c) = false := by
      cases c with
      | zero => omega
      | succ c => rfl
    obtain rfl : g = x := hx.2
    obtain ⟨_, _, _, _, b, bk, l, e1, e2, e3, e4⟩ := h3 hc
    exact ⟨b, bk, l, e1, e2, e3, e4⟩
/-- a row, named anew -/
theorem own_eff {μ : Mu} {h : Nat → Option Blk} {w : World} {base : Nat} {k : IntKind} {names : List Nat} {u : Value} {L : List Int} {ws : List (Option Blk)} (hf : ∀ n ∈ freshN base, μ n = none) (hd : DstOk μ h w k names u L) (hw : (names = [] ∧ ws = []) ∨ ∃ a, names = [a] ∧ ws = [none]) :
    ∃ c μ', L.length ≤ c ∧ Eff μ μ' h w base names ⟨one (.own base L.length c false), ws, [.oints k L]⟩ u w := by
  have hb : μ base = none := hf base (by simp [freshN])
  obtain ⟨l, c, e1, e2, e3, e4, e5, e6, e7⟩ := row_new (ν := noMu') hd
  let μ' : Mu := fun n => if n = base then some l else μ n
  have hext : Ext μ μ' := fun n l hl => by
    by_cases hn : n = base
    · subst hn; rw [hb] at hl; cases hl
    · simp [μ', hn, hl]
  refine ⟨c, μ', e3, { ext := hext, dom := fun n l hl => ?_, val := ⟨l, _, by simp [μ'], e1, e2, e5, e3, e4⟩, os := rfl, tape := rfl, output := rfl, size := Nat.le_refl _, keep := fun _ _ _ => rfl, wrs := ?_, wsl := ?_, nsl := by simp, olds := fun j n b' h1 h2 => ?_, news := fun j b hj => ?_, newsApart := fun j k b c l m x hne hj hk' => ?_ }⟩
  · by_cases hn : n = base
    · right; simp [freshN, hn]
    · left; simpa [μ', hn] using hl
  · rcases hw with ⟨rfl, _⟩ | ⟨a, rfl, _⟩ <;> simp
  · rcases hw with ⟨rfl, rfl⟩ | ⟨a, rfl, rfl⟩ <;> rfl
  · rcases hw with ⟨rfl, rfl⟩ | ⟨a, rfl, rfl⟩
    · simp at h1
    · match j, h2 with
      | 0, h2 => simp at h2
      | j + 1, h2 => simp at h2
  · match j, hj with
    | 0, hj =>
      simp at hj
      subst hj
      refine ⟨l, by simp [μ'], Blk.ok_ext (fun n l hl => by cases hl) e6, fun x hx => ?_⟩
      obtain ⟨b, bk, m, a1, a2, a3, a4⟩ := e7 x hx
      right
      rcases hw with ⟨h0, _⟩ | ⟨a, ha, hws⟩
      · rw [h0] at a1; cases a1
      · rw [a1] at ha; cases ha
        exact ⟨0, b, bk, m, by rw [a1]; rfl, by rw [hws]; rfl, a2, a3, a4⟩
    | j + 1, hj => simp at hj
  · match j, k, hj, hk' with
    | 0, 0, _, _ => exact absurd rfl hne
    | j + 1, _, hj, _ => simp at hj
    | 0, k + 1, _, hk' => simp at hk'
end Go.Proofs.Ytcaipfdnadlkdaa.Sx

namespace Go.Proofs.Ytcaipfdnadlkdaa.Sx
open Go
set_option linter.unusedVariables false
set_option linter.unusedSimpArgs false

/-- parts in order, each a number -/
def partsI (k : IntKind) : Nat → List (Nat × SV) → Option (List Int)
  | _, [] => some []
  | i, (j, .s (.c c)) :: ps => if j == i then match intC k c, partsI k (i + 1) ps with
      | some x, some xs => some (x :: xs)
      | _, _ => none
    else none
  | _, _ => none
theorem partsI_ok {μ : Mu} {k : IntKind} : ∀ {ps : List (Nat × SV)} {i : Nat} {xs : List Int} {vs : List (Nat × Value)}, partsI k i ps = some xs → AllP μ ps vs → vs = ((valsI k xs).zipIdx i).map fun x => (x.2, x.1)
  | [], i, xs, [], h, _ => by cases h; rfl
  | (j, .s (.c c)) :: ps, i, xs, (j', v) :: vs, h, ha => by
    simp only [partsI] at h
    split at h
    · rename_i hj
      split at h
      · rename_i x ys h1 h2
        cases h
        obtain ⟨e, hc, hr⟩ := ha
        have hj' : j = i := by simpa using hj
        subst hj'
        have e' : j' = j := by first | exact e.symm | exact e
        subst e'
        rw [partsI_ok h2 hr, intC_ok h1 hc]
        rfl
      · cases h
    · cases h
  | (_, .s (.a _)) :: _, _, _, _, h, _ => by simp [partsI] at h
  | (_, .t _) :: _, _, _, _, h, _ => by simp [partsI] at h
  | (_, .u) :: _, _, _, _, h, _ => by simp [partsI] at h
  | [], _, _, _ :: _, _, ha => ha.elim
  | _ :: _, _, _, [], _, ha => ha.elim
def litI (xs : List Int) (len : Nat) : Bool := xs.length == len
def bsReq (P : Program) (base : Nat) (t : TypeId) (len : Nat) (parts : List (Nat × SV)) : Req :=
  match P.underlying t with
  | some (.slice el) => match P.info? el, P.underlying el with
    | some inf, some (.int k) => match partsI k 0 parts with
      | some xs => if (inf.size == 1 && one1 inf.zero) && (litI xs len && decide (len ≤ 1000)) then ⟨[], [], fun _ => .ret ⟨one (.own base len len true), [], [.oints k xs]⟩⟩ else Req.fail
      | none => Req.fail
    | _, _ => Req.fail
  | _ => Req.fail
theorem bs_ok {P : Program} {μ : Mu} {h : Nat → Option Blk} {w : World} {base : Nat} {t : TypeId} {len : Nat} {parts : List (Nat × SV)} {vs : Array (Nat × Value)} (hf : ∀ n ∈ freshN base, μ n = none) (ha : AllP μ parts vs.toList) :
    Snd P μ h w base (bsReq P base t len parts) (Instr.buildSlice t len vs) := by
  intro K hk
  unfold bsReq at hk ⊢
  split at hk
  · rename_i el hu
    split at hk
    · rename_i inf k hi hk0
      split at hk
      · rename_i xs hxs
        split at hk
        · rename_i hc
          have hc2 := hc
          simp only [Bool.and_eq_true, beq_iff_eq, decide_eq_true_eq, litI] at hc
          obtain ⟨⟨hs1, hz1⟩, hl, hle⟩ := hc
          rw [if_pos hc2]
          subst hl
          have hz : ∃ z, inf.zero = some z ∧ z.cells.size = 1 := by
            unfold one1 at hz1
            split at hz1
            · rename_i z hz; exact ⟨z, hz, by simpa using hz1⟩
            · cases hz1
          obtain ⟨z, hz, hzs⟩ := hz
          have hvs := partsI_ok hxs ha
          have hrun : (Instr.buildSlice t xs.length vs).run P w = .ok (.slice (some ⟨w.heap.size, 0, none⟩) xs.length xs.length) (w.alloc (.cells (valsI k xs).toArray el)) := by
            by_cases h0 : xs.length = 0
            · have : xs = [] := List.eq_nil_of_length_eq_zero h0
              subst this
              have hv0 : vs.toList = [] := hvs
              simp [Instr.buildSlice, run_underlying hu, Go.sizeOf, typeInfo, hi, hv0, Instr.fill, newRow, valsI]
              rw [show Array.range 0 = #[] from by decide]
              simp
            · refine run_buildSlice w t el xs.length vs _ inf z hu hi hz (by rw [hs1]; omega) (by rw [hs1]; omega) ?_
              rw [hvs, hs1]
              exact Great.fill_flat _ _ (fun v hv => by simp [valsI] at hv; obtain ⟨n, _, rfl⟩ := hv; rfl) (by simp [valsI_len])
          have hb : μ base = none := hf base (by simp [freshN])
          let l' : Loc := ⟨w.heap.size, 0, .slice (some ⟨w.heap.size, 0, none⟩) xs.length xs.length⟩
          let μ' : Mu := fun n => if n = base then some l' else μ n
          have hext : Ext μ μ' := fun n l hl => by
            by_cases hn : n = base
            · subst hn; rw [hb] at hl; cases hl
            · simp [μ', hn, hl]
          refine ⟨_, _, μ', _, hrun, hk, { ext := hext, dom := fun n l hl => ?_, val := ⟨l', _, by simp [μ'], rfl, rfl, fun _ => rfl, Nat.le_refl _, by simp only [maxLen]; omega⟩, os := rfl, tape := rfl, output := rfl, size := by simp, keep := fun x hx _ => (by first | exact heap_alloc_old w _ x hx | exact heap_alloc_old w _ hx), wrs := List.nodup_nil, wsl := rfl, nsl := by simp, olds := fun j n b' h => (by simp at h), news := fun j b hj => ?_, newsApart := fun j k b c l m x hne hj hk' => ?_ }⟩
          · by_cases hn : n = base
            · right; simp [freshN, hn]
            · left; simpa [μ', hn] using hl
          · match j, hj with
            | 0, hj =>
              simp at hj
              subst hj
              refine ⟨l', by simp [μ'], ⟨el, _, xs.length, valsI k xs, rfl, Nat.le_refl _, by simp only [maxLen]; omega, by simp [valsI_len], fun hc => ⟨rfl, _, heap_alloc_new w _, by simp [l', valsI_len], fun x hx => by simp [l']⟩, fun i hi' => ⟨rfl, fun j c hc => ?_⟩⟩, fun x hx => ?_⟩
              · match j, hc with
                | 0, hc =>
                  simp [intsF] at hc
                  subst hc
                  exact ⟨_, by simpa using valsI_get k xs i hi', by simp [SC.ok, List.getD_eq_getElem?_getD]⟩
                | j + 1, hc => simp [intsF] at hc
              · left
                have h1 : l'.b = x := hx.2
                simp [l'] at h1
                omega
            | j + 1, hj => simp at hj
          · match j, k, hj, hk' with
            | 0, 0, _, _ => exact absurd rfl hne
            | j + 1, _, hj, _ => simp at hj
            | 0, k + 1, _, hk' => simp at hk'
        · exact hk.elim
      · exact hk.elim
    · exact hk.elim
  · exact hk.elim

/-! ### bytes as a string -/
def strOf (L : List Int) : ByteArray := L.foldl (fun r n => r.push (UInt8.ofNat n.toNat)) ByteArray.empty
def strRow (P : Program) (s d : TypeId) (x : SV) : Bool :=
  match P.underlying s, P.underlying d with
  | some (.slice el), some .string => match P.underlying el with
    | some (.int .u8) => rowS x
    | _ => false
  | _, _ => false
def toStrReq (x : SV) : Req :=
  match dstN x with
  | [] => match srcL .u8 x none with
    | some (p, M) => ⟨[], [], fun _ => oAst p (.ret ⟨one (.str (strOf M)), [], []⟩)⟩
    | none => Req.fail
  | [b] => ⟨[b], [], fun bl => match srcL .u8 x (headO bl) with
    | some (p, M) => oAst p (.ret ⟨one (.str (strOf M)), [], []⟩)
    | none => .fail⟩
  | _ => Req.fail
theorem run_str {P : Program} {w : World} {s d : TypeId} {u : Value} {M : List Int} (el : TypeId) (hs : P.underlying s = some (.slice el)) (hd : P.underlying d = some .string) (he : P.underlying el = some (.int .u8)) (hr : ∃ a n c, u = .slice a n c) (h : Src P 1 s u M.length (valsI .u8 M) w) :
    (convert s d u).run P w = .ok (.string (strOf M)) w := by
  obtain ⟨a, n, c, rfl⟩ := hr
  rw [run_convert_bytes_string w s d el a n c hs he hd]
  have hn : n = M.length := by
    have := h.len w
    simpa [Builtin.lenOf] using this
  subst hn
  have hc := h.cells
  cases a with
  | none =>
    simp [Builtin.firstCells] at hc
    have : M = [] := by
      have h0 : (valsI .u8 M).length = 0 := by
        cases hv : valsI .u8 M with
        | nil => rfl
        | cons a l => rw [hv] at hc; simp at hc
      rw [valsI_len] at h0
      exact List.eq_nil_of_length_eq_zero h0
    subst this
    rfl
  | some a =>
    have hl : (loadCells a M.length).run P w = .ok (M.map (Value.int .u8)).toArray w := by
      simpa [Builtin.firstCells, valsI] using hc
    exact run_bytesToString w a M.length c M hl
theorem toStr_ok {P : Program} {μ : Mu} {h : Nat → Option Blk} {w : World} {base : Nat} {s d : TypeId} {x : SV} {u : Value} (hc : strRow P s d x = true) (hm : HeapM μ h w) (hx : x.ok μ u) :
    Snd P μ h w base (toStrReq x) (convert s d u) := by
  intro K hk
  unfold strRow at hc
  split at hc
  · rename_i el hs hd
    split at hc
    · rename_i he
      have hr := rowS_ok hc hx
      unfold toStrReq at hk ⊢
      split at hk
      · rename_i hn
        split at hk
        · rename_i p M hM
          obtain ⟨hp, hk⟩ := oAst_ok hk
          exact ⟨_, w, μ, _, run_str el hs hd he hr (src_ok hs hm hx (.inl rfl) hM hp), hk, Eff.pure rfl⟩
        · exact hk.elim
      · rename_i b hn
        simp only [Req.pre, List.append_nil] at hk
        split at hk
        · rename_i p M hM
          obtain ⟨hp, hk⟩ := oAst_ok hk
          exact ⟨_, w, μ, _, run_str el hs hd he hr (src_ok hs hm hx (.inr ⟨b, hn, rfl⟩) hM hp), hk, Eff.pure rfl⟩
        · exact hk.elim
      · exact hk.elim
    · cases hc
  · cases hc
/-! ### a row of noughts -/
def zeroI (k : IntKind) (z : Option Value) : Bool :=
  match z with
  | some (.int k' n) => k' == k && n == 0
  | _ => false
theorem zeroI_ok {k : IntKind} {z : Option Value} (h : zeroI k z = true) : z = some (.int k 0) := by
  unfold zeroI at h
  split at h
  · simp at h
    obtain ⟨rfl, rfl⟩ := h
    rfl
  · cases h
theorem Eff.row {P : Program} {μ : Mu} {h : Nat → Option Blk} {w : World} {base : Nat} {k : IntKind} {el : TypeId} {xs : List Int} (hf : ∀ n ∈ freshN base, μ n = none) (hle : xs.length ≤ maxLen) (q : Bool) :
    ∃ μ', Eff μ μ' h w base [] ⟨one (.own base xs.length xs.length q), [], [.oints k xs]⟩ (.slice (some ⟨w.heap.size, 0, none⟩) xs.length xs.length) (w.alloc (.cells (valsI k xs).toArray el)) := by
  have hb : μ base = none := hf base (by simp [freshN])
  let l' : Loc := ⟨w.heap.size, 0, .slice (some ⟨w.heap.size, 0, none⟩) xs.length xs.length⟩
  let μ' : Mu := fun n => if n = base then some l' else μ n
  have hext : Ext μ μ' := fun n l hl => by
    by_cases hn : n = base
    · subst hn; rw [hb] at hl; cases hl
    · simp [μ', hn, hl]
  refine ⟨μ', { ext := hext, dom := fun n l hl => ?_, val := ⟨l', _, by simp [μ'], rfl, rfl, fun _ => rfl, Nat.le_refl _, hle⟩, os := rfl, tape := rfl, output := rfl, size := by simp, keep := fun x hx _ => (by first | exact heap_alloc_old w _ x hx | exact heap_alloc_old w _ hx), wrs := List.nodup_nil, wsl := rfl, nsl := by simp, olds := fun j n b' h => (by simp at h), news := fun j b hj => ?_, newsApart := fun j k b c l m x hne hj hk' => ?_ }⟩
  · by_cases hn : n = base
    · right; simp [freshN, hn]
    · left; simpa [μ', hn] using hl
  · match j, hj with
    | 0, hj =>
      simp at hj
      subst hj
      refine ⟨l', by simp [μ'], ⟨el, _, xs.length, valsI k xs, rfl, Nat.le_refl _, hle, by simp [valsI_len], fun hc => ⟨rfl, _, heap_alloc_new w _, by simp [l', valsI_len], fun x hx => by simp [l']⟩, fun i hi' => ⟨rfl, fun j c hc => ?_⟩⟩, fun x hx => ?_⟩
      · match j, hc with
        | 0, hc =>
          simp [intsF] at hc
          subst hc
          exact ⟨_, by simpa using valsI_get k xs i hi', by simp [SC.ok, List.getD_eq_getElem?_getD]⟩
        | j + 1, hc => simp [intsF] at hc
      · left
        have h1 : l'.b = x := hx.2
        simp [l'] at h1
        omega
    | j + 1, hj => simp at hj
  · match j, k, hj, hk' with
    | 0, 0, _, _ => exact absurd rfl hne
    | j + 1, _, hj, _ => simp at hj
    | 0, k + 1, _, hk' => simp at hk'
def msReq (P : Program) (base : Nat) (t : TypeId) (x y : SV) : Req :=
  match P.underlying t with
  | some (.slice el) => match P.info? el, P.underlying el with
    | some inf, some (.int k) => match x.int?, y.int? with
      | some (_, n, _), some (_, m, _) => if (inf.size == 1 && decide (inf.bytes ≤ 64)) && zeroI k inf.zero then ⟨[], [], fun _ => .ast ((0 ≤ n ∧ n ≤ 1000) ∧ m = n) (.ret ⟨one (.own base n.toNat n.toNat true), [], [.oints k (List.replicate n.toNat 0)]⟩)⟩ else Req.fail
      | _, _ => Req.fail
    | _, _ => Req.fail
  | _ => Req.fail
theorem ms_ok {P : Program} {μ : Mu} {h : Nat → Option Blk} {w : World} {base : Nat} {t : TypeId} {x y : SV} {u v : Value} (hf : ∀ n ∈ freshN base, μ n = none) (hx : x.ok μ u) (hy : y.ok μ v) :
    Snd P μ h w base (msReq P base t x y) (Instr.makeSlice t u v) := by
  intro K hk
  unfold msReq at hk ⊢
  split at hk
  · rename_i el hu
    split at hk
    · rename_i inf k hi hk0
      split at hk
      · rename_i k1 n q1 k2 m q2 h1 h2
        obtain rfl := SV.int_ok h1 hx
        obtain rfl := SV.int_ok h2 hy
        split at hk
        · rename_i hc
          have hc2 := hc
          simp only [Bool.and_eq_true, beq_iff_eq, decide_eq_true_eq] at hc
          obtain ⟨⟨hs1, hby⟩, hz⟩ := hc
          have hz' := zeroI_ok hz
          rw [if_pos hc2]
          obtain ⟨⟨⟨⟨h0, hle⟩, rfl⟩⟩, hk⟩ := hk
          have hmul : (inf.bytes : Int) * m ≤ 281474976710656 := by
            have : (inf.bytes : Int) * m ≤ 64 * 1000 := Int.mul_le_mul (by omega) hle h0 (by omega)
            omega
          have hr := run_make (P := P) w t el inf _ hu hi hz' k1 k2 m m h0 (Int.le_refl _) hmul (by omega)
          have hcells : madeCells (Value.int k 0).cells (m.toNat * inf.size) = (valsI k (List.replicate m.toNat 0)).toArray := by
            apply Array.ext
            · simp [madeCells, valsI, hs1]
            · intro i hi1 hi2
              simp [madeCells, valsI, Value.cells, Nat.mod_one]
          rw [hcells] at hr
          have hl : (List.replicate m.toNat (0 : Int)).length = m.toNat := by simp
          obtain ⟨μ', he⟩ := Eff.row (P := P) (h := h) (w := w) (k := k) (el := el) (xs := List.replicate m.toNat 0) hf (by rw [hl]; simp only [maxLen]; omega) true
          rw [hl] at he
          exact ⟨_, _, μ', _, hr, hk, he⟩
        · exact hk.elim
      · exact hk.elim
    · exact hk.elim
  · exact hk.elim
end Go.Proofs.Ytcaipfdnadlkdaa.Sx

namespace Go.Proofs.Ytcaipfdnadlkdaa.Sx
open Go
set_option linter.unusedVariables false
set_option linter.unusedSimpArgs false

abbrev Spec := Nat → List SV → Req
abbrev Env := FuncId → Option Spec
/-- a function's contract holds -/
def SpecOk (P : Program) (f : FuncId) (sp : Spec) : Prop :=
  ∀ (μ : Mu) (h : Nat → Option Blk) (w : World) (base : Nat) (args : List SV) (vals : List Value), HeapM μ h w → AllV μ args vals → (∀ n ∈ freshN base, μ n = none) → ∀ K : Res → Prop, (sp base args).pre h K →
    Calls P f vals.toArray w fun e w' => ∃ v μ' r, e = .returned v ∧ K r ∧ Eff μ μ' h w base (sp base args).wr r v w'
def Callable (P : Program) (f : FuncId) : Prop := ∃ fn, P.funcs[f]? = some fn ∧ fn.body.isNone = false ∧ (fn.name == "runtime.NumGoroutine") = false
def EnvOk (P : Program) (Γ : Env) : Prop := ∀ f sp, Γ f = some sp → Callable P f ∧ SpecOk P f sp

def evS (slots : List SV) : Operand → SV
  | .tmp t => slots.getD t .u
  | .const v => constSV v
  | .func f => .s (.c (.fn f))
  | .global _ => .u
theorem evS_ok {w0 : World} {I : Nat → Prop} {μ : Mu} {s : St} {a : Act} {w : World} (hm : Models w0 I μ s a w) (x : Operand) : (evS s.slots x).ok μ (a.eval x) := by
  cases x with
  | tmp t =>
    simp only [evS, Act.eval]
    cases h : s.slots[t]? with
    | none => simp [List.getD, h]; trivial
    | some y =>
      obtain ⟨v, hv, hok⟩ := hm.slots t y h
      simp [List.getD, h, hv]
      exact hok
  | const v => exact constSV_ok μ v
  | func f => rfl
  | global g => trivial

def binOut (P : Program) (op : BinOp) (t : TypeId) (x y : SV) : Out SV :=
  match x.int?, y.int? with
  | some (k, a, ca), some (k', b, cb) => intOut op k k' a b ca cb
  | _, _ => match x.bool?, y.bool? with
    | some (a, ca), some (b, cb) => match P.underlying t with
      | some .bool => boolOut op a b (ca && cb)
      | _ => .fail
    | _, _ => match x.ptr?, y.ptr? with
      | some a, some b => match P.underlying t with
        | some (.pointer _) => ptrOut op a b
        | _ => .fail
      | _, _ => match x.agg?, y.agg? with
        | some xs, some ys => eqOut P op t xs ys
        | _, _ => match x.str?, y.str? with
          | some a, some b => match P.underlying t with
            | some .string => strEq op a b
            | _ => .fail
          | _, _ => .fail
theorem bin_ok {μ : Mu} {P : Program} {w : World} {K : SV → Prop} {op : BinOp} {t : TypeId} {xo yo : Operand} {x y : SV} {u v : Value} (hx : x.ok μ u) (hy : y.ok μ v) (h : (binOut P op t x y).wp K) :
    ∃ z sv, (do eqGuard op t xo yo u v; binOp op t u v).run P w = .ok z w ∧ K sv ∧ sv.ok μ z := by
  unfold binOut at h
  split at h
  · rename_i k a ca k' b cb ha hb
    have e1 := SV.int_ok ha hx
    have e2 := SV.int_ok hb hy
    subst e1; subst e2
    obtain ⟨z, sv, h1, h2, h3⟩ := int_out_ok (μ := μ) (P := P) (w := w) (t := t) h
    exact ⟨z, sv, by rw [eqGuard_at_int]; simpa using h1, h2, h3⟩
  · split at h
    · rename_i a ca b cb ha hb
      have e1 := SV.bool_ok ha hx
      have e2 := SV.bool_ok hb hy
      subst e1; subst e2
      split at h
      · rename_i hu
        obtain ⟨z, sv, h1, h2, h3⟩ := bool_out_ok (μ := μ) (P := P) (w := w) (t := t) hu h
        exact ⟨z, sv, by rw [eqGuard_at_bool]; simpa using h1, h2, h3⟩
      · exact h.elim
    · split at h
      · rename_i a b ha hb
        have e1 := SV.ptr_ok ha hx
        have e2 := SV.ptr_ok hb hy
        split at h
        · rename_i e hu
          obtain ⟨z, sv, h1, h2, h3⟩ := ptr_out_ok (μ := μ) (P := P) (w := w) (t := t) hu e1 e2 h
          refine ⟨z, sv, ?_, h2, h3⟩
          have hp : ∃ p, u = .pointer p := by
            cases a
            · exact ⟨none, by simpa using e1⟩
            · obtain ⟨p, hp⟩ := (by simpa using e1 : ∃ p, u = .pointer (some p)); exact ⟨some p, hp⟩
          obtain ⟨p, rfl⟩ := hp
          rw [eqGuard_at_pointer]
          simpa using h1
        · exact h.elim
      · split at h
        · rename_i xs ys ha hb
          obtain ⟨us, rfl, hxa⟩ := SV.agg_ok ha hx
          obtain ⟨vs, rfl, hya⟩ := SV.agg_ok hb hy
          exact eq_ok hxa hya h
        · split at h
          · rename_i a b ha hb
            have e1 := SV.str_ok ha hx
            have e2 := SV.str_ok hb hy
            subst e1; subst e2
            split at h
            · rename_i hu
              obtain ⟨z, sv, h1, h2, h3⟩ := str_out_ok (μ := μ) (P := P) (w := w) (t := t) hu h
              exact ⟨z, sv, by rw [eqGuard_at_string]; simpa using h1, h2, h3⟩
            · exact h.elim
          · exact h.elim

/-- a slice against nil -/
def isNilC : Operand → Bool
  | .const (.slice none 0 0) => true
  | _ => false
def capS : SV → Option Nat
  | .s (.c (.sli _ _ _ _ _ c _)) => some c
  | .s (.c (.own _ _ c _)) => some c
  | .s (.c .nos) => some 0
  | _ => none
def nilOut (op : BinOp) (x : SV) : Out SV :=
  match capS x with
  | some c => match op with
    | .eql => .all (fun b : Bool => b = true → c = 0) ⟨false, fun h => by cases h⟩ fun b => .ret (one (.boo b))
    | .neq => .all (fun b : Bool => b = false → c = 0) ⟨true, fun h => by cases h⟩ fun b => .ret (one (.boo b))
    | _ => .fail
  | none => .fail
theorem capS_ok {μ : Mu} {x : SV} {u : Value} {c : Nat} (h : capS x = some c) (hx : x.ok μ u) : ∃ a n, u = .slice a n c ∧ (a = none → c = 0) := by
  unfold capS at h
  split at h
  · cases h
    obtain ⟨l, a, _, rfl, ha, _⟩ := hx
    refine ⟨a, _, rfl, fun e => ?_⟩
    rcases Nat.eq_zero_or_pos c with h0 | h0
    · exact h0
    · rw [ha h0] at e; cases e
  · cases h
    obtain ⟨l, a, _, rfl, he, ha, _⟩ := hx
    refine ⟨a, _, he, fun e => ?_⟩
    rcases Nat.eq_zero_or_pos c with h0 | h0
    · exact h0
    · rw [ha h0] at e; cases e
  · cases h
    obtain ⟨a, rfl⟩ := hx
    exact ⟨a, 0, rfl, fun _ => rfl⟩
  · cases h
theorem isNil_ok {μ : Mu} {o : Operand} (h : isNilC o = true) (ρ : Operand → Value) (hρ : ∀ v, ρ (.const v) = v) : ρ o = .slice none 0 0 := by
  unfold isNilC at h
  split at h
  · exact hρ _
  · cases h
theorem nil_ok {μ : Mu} {P : Program} {w : World} {K : SV → Prop} {op : BinOp} {t el : TypeId} {xo yo : Operand} {x : SV} {u : Value} (hu : P.underlying t = some (.slice el)) (hx : x.ok μ u) (h : (nilOut op x).wp K) :
    ∃ z sv, (do eqGuard op t xo yo u (.slice none 0 0); binOp op t u (.slice none 0 0)).run P w = .ok z w ∧ K sv ∧ sv.ok μ z := by
  unfold nilOut at h
  split at h
  · rename_i c hc
    obtain ⟨a, n, rfl, ha⟩ := capS_ok hc hx
    have hd : ∀ d : Nat, (Op.equalIn (d + 1) t (.slice a n c) (.slice none 0 0)).run P w = .ok a.isNone w := fun d => by
      cases a <;> simp [Op.equalIn, run_underlying hu]
    have he : (Op.equal t (.slice a n c) (.slice none 0 0)).run P w = .ok a.isNone w := hd 9999
    cases op <;> simp only [] at h <;> try exact h.elim
    · refine ⟨.bool a.isNone, _, by rw [eqGuard_at_slice]; simp [binOp, he], h a.isNone (fun e => ha (by simpa using e)), rfl⟩
    · refine ⟨.bool (!a.isNone), _, by rw [eqGuard_at_slice]; simp [binOp, he], h (!a.isNone) (fun e => ha (by simpa using e)), rfl⟩
  · exact h.elim
def slcT (P : Program) (t : TypeId) : Bool :=
  match P.underlying t with
  | some (.slice _) => true
  | _ => false

def pickReq (c a b : SV) : Req :=
  match c.bool? with
  | some (q, f) => match f with
    | true => match q with
      | true => Req.pure (.ret a)
      | false => Req.pure (.ret b)
    | false => Req.pure (.brB q (.ret a) (.ret b))
  | none => Req.fail
def callReq (P : Program) (Γ : Env) (base : Nat) (ev : Operand → SV) (c : Call) : Req :=
  match c.callee with
  | .builtin .len => match c.args.toList, c.argTypes.toList with
    | [x], [t] => Req.pure (lenOut P t (ev x))
    | _, _ => Req.fail
  | .builtin .min => match c.args.toList with
    | x :: ys => Req.pure (minOut false (ev x) (ys.map ev))
    | _ => Req.fail
  | .builtin .max => match c.args.toList with
    | x :: ys => Req.pure (minOut true (ev x) (ys.map ev))
    | _ => Req.fail
  | .builtin .append => match c.args.toList, c.argTypes.toList with
    | [x, y], [t, tx] => appendReq P base t tx (ev x) (ev y)
    | _, _ => Req.fail
  | .value f => match ev f with
    | .s (.c (.fn g)) => match Γ g with
      | some sp => sp base (c.args.toList.map ev)
      | none => Req.fail
    | _ => Req.fail
  | _ => Req.fail
def opReq (P : Program) (Γ : Env) (base : Nat) (ev : Operand → SV) : Op → Req
  | .move x => Req.pure (.ret (ev x))
  | .assign x => Req.pure (.ret (ev x))
  | .pick c a b => pickReq (ev c) (ev a) (ev b)
  | .alloc t => allocReq P base t
  | .box t x => newReq base t (ev x).cells?
  | .build t parts => Req.pure (buildOut P t (parts.toList.map fun p => (p.1, ev p.2)))
  | .buildSlice t len parts => bsReq P base t len (parts.toList.map fun p => (p.1, ev p.2))
  | .makeSlice t l c => msReq P base t (ev l) (ev c)
  | .load t a => loadReq P t (ev a)
  | .store t a x => storeReq P t (ev a) (ev x)
  | .nilCheck x => match (ev x).ptr? with
    | some true => Req.pure (.ret (ev x))
    | _ => Req.fail
  | .binOp op t x y _ => if isNilC y && slcT P t then Req.pure (nilOut op (ev x)) else Req.pure (binOut P op t (ev x) (ev y))
  | .unOp op _ x => Req.pure (unOut op (ev x))
  | .convert s d x => if strRow P s d (ev x) then toStrReq (ev x) else Req.pure (convOut P s d (ev x))
  | .slice t x lo hi mx => Req.pure (sliceOut P t (ev x) (lo.map ev) (hi.map ev) (mx.map ev))
  | .fieldAddr s x f => Req.pure (fieldOut P s (ev x) f)
  | .field s x f => Req.pure (fieldV P s (ev x) f)
  | .indexAddr t x i => Req.pure (indexOut P t (ev x) (ev i))
  | .index t x i => Req.pure (indexV P t (ev x) (ev i))
  | .extract x i => Req.pure (extractOut (ev x) i)
  | .call c => callReq P Γ base ev c
  | _ => Req.fail

/-- what a step comes to, at a frame and a world -/
def Came (μ : Mu) (h : Nat → Option Blk) (w : World) (base : Nat) (wr : List Nat) (dst : Option Tmp) (a : Act) (K : Res → Prop) (a' : Act) (w' : World) : Prop :=
  ∃ v μ' r, a' = a.put dst v ∧ K r ∧ Eff μ μ' h w base wr r v w'
theorem step_value {P : Program} {μ : Mu} {h : Nat → Option Blk} {w : World} {base : Nat} {r : Req} {x : Sem Value} {o : Oper} {a : Act} {Q : Exit → Act → World → Prop} {K : Res → Prop}
    (hs : Snd P μ h w base r x) (he : execOp a.eval o = (do pure (.value (← x)))) (hk : r.pre h K) : o.wp P a w (Came μ h w base r.wr o.dst a K) Q := by
  obtain ⟨v, w', μ', res, h1, h2, h3⟩ := hs K hk
  unfold Oper.wp
  rw [he]
  simp only [Sem.run_bind, h1, Result.andThen_ok, Sem.run_pure, Oper.upon_value]
  exact ⟨v, μ', res, rfl, h2, h3⟩
theorem step_unit {P : Program} {μ : Mu} {h : Nat → Option Blk} {w : World} {base : Nat} {r : Req} {x : Sem Unit} {o : Oper} {a : Act} {Q : Exit → Act → World → Prop} {K : Res → Prop}
    (hs : SndU P μ h w base r x) (he : execOp a.eval o = (do x; pure .skip)) (hk : r.pre h K) : o.wp P a w (Came μ h w base r.wr o.dst a K) Q := by
  obtain ⟨w', μ', res, h1, h2, h3⟩ := hs K hk
  unfold Oper.wp
  rw [he]
  simp only [Sem.run_bind, h1, Result.andThen_ok, Sem.run_pure, Oper.upon_skip]
  exact ⟨undef, μ', res, rfl, h2, h3⟩
theorem allV_map {μ : Mu} {ev : Operand → SV} {ρ : Operand → Value} (h : ∀ x, (ev x).ok μ (ρ x)) : ∀ l : List Operand, AllV μ (l.map ev) (l.map ρ)
  | [] => trivial
  | x :: l => ⟨h x, allV_map h l⟩
theorem allP_map {μ : Mu} {ev : Operand → SV} {ρ : Operand → Value} (h : ∀ x, (ev x).ok μ (ρ x)) : ∀ l : List (Nat × Operand), AllP μ (l.map fun p => (p.1, ev p.2)) (l.map fun p => (p.1, ρ p.2))
  | [] => trivial
  | x :: l => ⟨rfl, h x.2, allP_map h l⟩
theorem optOk_map {μ : Mu} {ev : Operand → SV} {ρ : Operand → Value} (h : ∀ x, (ev x).ok μ (ρ x)) : ∀ o : Option Operand, optOk μ (o.map ev) (o.map ρ)
  | none => trivial
  | some x => h x

/-- a step of a request is a step of the model -/
theorem op_sound {P : Program} {Γ : Env} (hΓ : EnvOk P Γ) {μ : Mu} {h : Nat → Option Blk} {w : World} {base : Nat} {ev : Operand → SV} {o : Oper} {a : Act} {Q : Exit → Act → World → Prop} {K : Res → Prop}
    (hm : HeapM μ h w) (hev : ∀ x, (ev x).ok μ (a.eval x)) (hf : ∀ n ∈ freshN base, μ n = none) (hk : (opReq P Γ base ev o.op).pre h K) :
    o.wp P a w (Came μ h w base (opReq P Γ base ev o.op).wr o.dst a K) Q := by
  obtain ⟨dst, op, type, pos, after, guard⟩ := o
  have fail : ∀ {R : Prop}, Req.fail.pre h K → R := fun hh => hh.elim
  cases op <;> simp only [opReq] at hk ⊢ <;> try exact fail hk
  case move x =>
    refine step_value (x := pure (a.eval x)) (Snd.pure fun K' hK => ⟨_, _, rfl, hK, hev x⟩) ?_ hk
    simp [execOp]
  case assign x =>
    refine step_value (x := pure (a.eval x)) (Snd.pure fun K' hK => ⟨_, _, rfl, hK, hev x⟩) ?_ hk
    simp [execOp]
  case pick c x y =>
    unfold pickReq at hk ⊢
    split at hk
    · rename_i q f hc
      have e := SV.bool_ok hc (hev c)
      cases f
      · refine step_value (x := pure (if q then a.eval x else a.eval y)) (Snd.pure fun K' hK => ?_) ?_ hk
        · cases q
          · exact ⟨_, _, rfl, hK.2 rfl, hev y⟩
          · exact ⟨_, _, rfl, hK.1 rfl, hev x⟩
        · simp [execOp, e, asBool]
      · cases q
        · refine step_value (x := pure (a.eval y)) (Snd.pure fun K' hK => ⟨_, _, rfl, hK, hev y⟩) ?_ hk
          simp [execOp, e, asBool]
        · refine step_value (x := pure (a.eval x)) (Snd.pure fun K' hK => ⟨_, _, rfl, hK, hev x⟩) ?_ hk
          simp [execOp, e, asBool]
    · exact fail hk
  case alloc t => exact step_value (alloc_ok hf) (by simp only [execOp]) hk
  case box t x =>
    refine step_value (x := Instr.box t (a.eval x)) ?_ (by simp only [execOp]) hk
    exact new_ok hf fun l hl => SV.cells_ok hl (hev x)
  case build t parts =>
    refine step_value (x := Instr.build t (parts.map fun (i, x) => (i, a.eval x))) (Snd.pure fun K' hK => ?_) (by simp only [execOp]) hk
    obtain ⟨z, sv, h1, h2, h3⟩ := build_ok (w := w) (allP_map hev parts.toList) hK
    refine ⟨z, sv, ?_, h2, h3⟩
    rw [← h1]
    congr 2
    apply Array.toList_inj.1
    simp
  case load t x => exact step_value (load_ok hm (hev x)) (by simp only [execOp]) hk
  case store t x y => exact step_unit (store_ok hm (hev x) (hev y)) (by simp only [execOp]) hk
  case nilCheck x =>
    split at hk
    · rename_i hp
      obtain ⟨p, e⟩ := (by simpa using SV.ptr_ok hp (hev x) : ∃ p, a.eval x = .pointer (some p))
      refine step_value (x := pure (a.eval x)) (Snd.pure fun K' hK => ⟨_, _, rfl, hK, hev x⟩) ?_ hk
      simp [execOp, e]
    · exact fail hk
  case binOp op t x y t2 =>
    split at hk
    · rename_i hc
      rw [if_pos hc]
      simp only [Bool.and_eq_true] at hc
      have hy : a.eval y = .slice none 0 0 := isNil_ok (μ := μ) hc.1 a.eval fun v => rfl
      have hu : ∃ el, P.underlying t = some (.slice el) := by
        have := hc.2
        unfold slcT at this
        split at this
        · rename_i el hu; exact ⟨el, hu⟩
        · cases this
      obtain ⟨el, hu⟩ := hu
      refine step_value (x := do eqGuard op t x y (a.eval x) (a.eval y); Go.binOp op t (a.eval x) (a.eval y)) (Snd.pure fun K' hK => ?_) (by simp only [execOp]) hk
      rw [hy]
      exact nil_ok (xo := x) (yo := y) hu (hev x) hK
    · rename_i hc
      rw [if_neg hc]
      exact step_value (Snd.pure fun K' hK => bin_ok (xo := x) (yo := y) (hev x) (hev y) hK) (by simp only [execOp]) hk
  case unOp op t x => exact step_value (Snd.pure fun K' hK => un_ok (hev x) hK) (by simp only [execOp]) hk
  case convert s d x =>
    split at hk
    · rename_i hc
      rw [if_pos hc]
      exact step_value (toStr_ok hc hm (hev x)) (by simp only [execOp]) hk
    · rename_i hc
      rw [if_neg hc]
      exact step_value (Snd.pure fun K' hK => conv_ok (hev x) hK) (by simp only [execOp]) hk
  case buildSlice t len parts =>
    refine step_value (x := Instr.buildSlice t len (parts.map fun (i, x) => (i, a.eval x))) (bs_ok hf ?_) (by simp only [execOp]) hk
    have := allP_map hev parts.toList
    simpa using this
  case makeSlice t l c => exact step_value (ms_ok hf (hev l) (hev c)) (by simp only [execOp]) hk
  case slice t x lo hi mx => exact step_value (Snd.pure fun K' hK => slice_ok (hev x) (optOk_map hev lo) (optOk_map hev hi) (optOk_map hev mx) hK) (by simp only [execOp]) hk
  case fieldAddr s x f => exact step_value (Snd.pure fun K' hK => field_ok (hev x) hK) (by simp only [execOp]) hk
  case field s x f => exact step_value (Snd.pure fun K' hK => fieldV_ok (hev x) hK) (by simp only [execOp]) hk
  case indexAddr t x i => exact step_value (Snd.pure fun K' hK => index_ok (hev x) (hev i) hK) (by simp only [execOp]) hk
  case index t x i => exact step_value (Snd.pure fun K' hK => indexV_ok (hev x) (hev i) hK) (by simp only [execOp]) hk
  case extract x i => exact step_value (Snd.pure fun K' hK => extract_ok (hev x) hK) (by simp only [execOp]) hk
  case call c =>
    obtain ⟨callee, args, argTypes⟩ := c
    unfold callReq at hk ⊢
    cases callee with
    | invoke r m => exact fail hk
    | builtin b =>
      cases b <;> simp only [] at hk ⊢ <;> try exact fail hk
      case len =>
        split at hk
        · rename_i x t ha ht
          obtain ⟨args⟩ := args
          obtain ⟨argTypes⟩ := argTypes
          simp only [] at ha ht
          subst ha; subst ht
          refine step_value (x := Builtin.len_ #[t] type #[a.eval x]) (Snd.pure fun K' hK => len_ok (hev x) hK) ?_ hk
          simp [execOp, resolve, invoke, builtin]
        · exact fail hk
      case min =>
        split at hk
        · rename_i x ys ha
          obtain ⟨args⟩ := args
          simp only [] at ha
          subst ha
          refine step_value (x := (ys.map a.eval).foldlM Builtin.min2 (a.eval x)) (Snd.pure fun K' hK => ?_) ?_ hk
          · have := min_ok (P := P) (w := w) false (hev x) (allV_map hev ys) hK
            simpa using this
          · simp [execOp, resolve, invoke, builtin, Builtin.min_]
        · exact fail hk
      case max =>
        split at hk
        · rename_i x ys ha
          obtain ⟨args⟩ := args
          simp only [] at ha
          subst ha
          refine step_value (x := (ys.map a.eval).foldlM Builtin.max2 (a.eval x)) (Snd.pure fun K' hK => ?_) ?_ hk
          · have := min_ok (P := P) (w := w) true (hev x) (allV_map hev ys) hK
            simpa using this
          · simp [execOp, resolve, invoke, builtin, Builtin.max_]
        · exact fail hk
      case append =>
        split at hk
        · rename_i x y t tx ha ht
          obtain ⟨args⟩ := args
          obtain ⟨argTypes⟩ := argTypes
          simp only [] at ha ht
          subst ha; subst ht
          refine step_value (x := Builtin.append_ #[t, tx] type #[a.eval x, a.eval y]) (append_ok hm hf (hev x) (hev y)) ?_ hk
          simp [execOp, resolve, invoke, builtin]
        · exact fail hk
    | value f =>
      simp only [] at hk ⊢
      split at hk
      · rename_i g hg
        split at hk
        · rename_i sp hsp
          obtain ⟨⟨fn, hfn, hbody, hname⟩, hok⟩ := hΓ g sp hsp
          have e : a.eval f = .func (.func g) #[] #[] := by
            have := hev f
            rw [hg] at this
            exact this
          have hc := hok μ h w base (args.toList.map ev) (args.toList.map a.eval) hm (allV_map hev _) hf K hk
          unfold Oper.wp
          have hrun : (execOp a.eval { dst := dst, op := Op.call { callee := .value f, args := args, argTypes := argTypes }, type := type, pos := pos, after := after, guard := guard }).run P w = .ok (.enter g (args.map a.eval)) w := by
            have hne : ¬ fn.name = "runtime.NumGoroutine" := by simpa using hname
            have hnb : ¬ fn.body = none := fun hh => by rw [hh] at hbody; cases hbody
            simp [execOp, resolve, invoke, e, Deferred.ofValue, callFunc, hfn, hnb, hne]
          rw [hrun, Oper.upon_enter]
          have hargs : (args.toList.map a.eval).toArray = args.map a.eval := by
            apply Array.toList_inj.1
            simp
          rw [hargs] at hc
          refine hc.mono fun e' w' he => ?_
          obtain ⟨v, μ', r, rfl, hr, heff⟩ := he
          exact ⟨v, μ', r, rfl, hr, heff⟩
        · exact fail hk
      · exact fail hk
end Go.Proofs.Ytcaipfdnadlkdaa.Sx

namespace Go.Proofs.Ytcaipfdnadlkdaa.Sx
open Go
set_option linter.unusedVariables false
set_option linter.unusedSimpArgs false

/-- what an operation that was not run leaves -/
def SV.isEmp : SV → Bool
  | .t [] => true
  | _ => false
/-- is an operation to be run? 'none': not known -/
def wantedS (ops : Array Oper) (slots : List SV) (o : Oper) : Option Bool :=
  match o.guard with
  | none => some true
  | some (j, want) => match (ops[j]?).bind (·.dst) with
    | some t => match (slots.getD t .u).bool? with
      | some (b, true) => some (b == want)
      | _ => match (slots.getD t .u).isEmp with
        | true => some false
        | false => none
    | none => none
/-- a Boolean that others hang on is parted -/
def concV (flag : Bool) (r : Res) : Out Res :=
  if flag then
    match r.v with
    | .s (.c (.boo b)) => .brB b (.ret { r with v := one (.tru true) }) (.ret { r with v := one (.tru false) })
    | _ => .ret r
  else .ret r
def Req.conc (r : Req) (flag : Bool) : Req := ⟨r.rd, r.wr, fun bl => (r.act bl).bind (concV flag)⟩
def isGuard (ops : Array Oper) (i : Nat) : Bool := ops.toList.any fun o => match o.guard with | some (j, _) => j == i | none => false
def reqAt (P : Program) (Γ : Env) (ops : Array Oper) (i base : Nat) (slots : List SV) (o : Oper) : Req := (opReq P Γ base (evS slots) o.op).conc (isGuard ops i)
def stepS (P : Program) (Γ : Env) (ops : Array Oper) (i base : Nat) (s : St) (K : St → Prop) : Prop :=
  match ops[i]? with
  | none => K s
  | some o => match wantedS ops s.slots o with
    | some true => (reqAt P Γ ops i base s.slots o).pre s.heap fun res => s.applyK o.dst base (reqAt P Γ ops i base s.slots o).wr res K
    | some false => fSp (putS s.slots o.dst (.t [])) fun sl => K ⟨sl, s.heap, s.next⟩
    | none => False

theorem wantedS_ok {w0 : World} {I : Nat → Prop} {μ : Mu} {s : St} {a : Act} {w : World} {ops : Array Oper} {o : Oper} {b : Bool} (hm : Models w0 I μ s a w) (h : wantedS ops s.slots o = some b) : Region.wanted o (yielded ops a.tmps) = b := by
  unfold wantedS at h
  unfold Region.wanted
  split at h
  · rename_i hg
    rw [hg]
    cases h
    rfl
  · rename_i j want hg
    rw [hg]
    split at h
    · rename_i t ht
      split at h
      · rename_i c hc
        cases h
        have hlt : t < s.slots.length := by
          rcases Nat.lt_or_ge t s.slots.length with h | h
          · exact h
          · rw [List.getD, List.getElem?_eq_none h] at hc; cases hc
        obtain ⟨v, hv, hok⟩ := hm.slots t _ (List.getElem?_eq_getElem hlt)
        have hc' : (s.slots[t]).bool? = some (c, true) := by simpa [List.getD, hlt] using hc
        have := SV.bool_ok hc' hok
        subst this
        simp [yielded, ht, hv]
      · split at h
        · rename_i hc
          cases h
          have hlt : t < s.slots.length := by
            rcases Nat.lt_or_ge t s.slots.length with h | h
            · exact h
            · rw [List.getD, List.getElem?_eq_none h] at hc; cases hc
          obtain ⟨v, hv, hok⟩ := hm.slots t _ (List.getElem?_eq_getElem hlt)
          have hc' : (s.slots[t]).isEmp = true := by simpa [List.getD, hlt] using hc
          have hv' : v = .tuple #[] := by
            revert hok hc'
            cases s.slots[t] with
            | t xs =>
              cases xs with
              | nil =>
                rintro ⟨vs, rfl, ha⟩ _
                cases vs with
                | nil => rfl
                | cons _ _ => exact ha.elim
              | cons _ _ => intro _ h; cases h
            | s _ => intro _ h; cases h
            | u => intro _ h; cases h
          subst hv'
          simp [yielded, ht, hv]
        · cases h
    · cases h
theorem Eff.setV {μ μ' : Mu} {h : Nat → Option Blk} {w w' : World} {base : Nat} {wr : List Nat} {r : Res} {v : Value} {x : SV} (he : Eff μ μ' h w base wr r v w') (hx : x.ok μ' v) : Eff μ μ' h w base wr { r with v := x } v w' :=
  { he with val := hx }
theorem conc_came {μ : Mu} {h : Nat → Option Blk} {w : World} {base : Nat} {wr : List Nat} {dst : Option Tmp} {a a' : Act} {w' : World} {flag : Bool} {K : Res → Prop} (hc : Came μ h w base wr dst a (fun r => (concV flag r).wp K) a' w') :
    Came μ h w base wr dst a K a' w' := by
  obtain ⟨v, μ', r, h1, h2, h3⟩ := hc
  unfold concV at h2
  split at h2
  · split at h2
    · rename_i b hb
      have hv := h3.val
      rw [hb] at hv
      have hv' : v = .bool b := hv
      cases b
      · exact ⟨v, μ', _, h1, h2.2 rfl, h3.setV hv'⟩
      · exact ⟨v, μ', _, h1, h2.1 rfl, h3.setV hv'⟩
    · exact ⟨v, μ', r, h1, h2, h3⟩
  · exact ⟨v, μ', r, h1, h2, h3⟩
theorem Models.skip {w0 : World} {I : Nat → Prop} {μ : Mu} {s : St} {a : Act} {w : World} (hm : Models w0 I μ s a w) (dst : Option Nat) : Models w0 I μ { s with slots := putS s.slots dst (.t []) } (a.put dst undef) w where
  size := by
    cases dst with
    | none => exact hm.size
    | some d => simpa [putS, Act.put] using hm.size
  slots := fun i x hx => by
    cases dst with
    | none => exact hm.slots i x hx
    | some d =>
      simp only [putS] at hx
      by_cases hd : d = i
      · subst hd
        have hlt : d < s.slots.length := by
          have := (List.getElem?_eq_some_iff.1 hx).1
          simpa using this
        simp [hlt] at hx
        subst hx
        exact ⟨undef, by simp [Act.put, hm.size, hlt], ⟨[], rfl, trivial⟩⟩
      · rw [List.getElem?_set_ne hd] at hx
        obtain ⟨u, hu, hok⟩ := hm.slots i x hx
        exact ⟨u, by simp [Act.put, Array.getElem?_setIfInBounds_ne hd, hu], hok⟩
  defers := by cases dst <;> exact hm.defers
  hm := hm.hm
  mine := hm.mine
  fr := hm.fr

theorem step_sound {P : Program} {Γ : Env} (hΓ : EnvOk P Γ) {ops : Array Oper} {i base : Nat} {w0 : World} {I : Nat → Prop} {μ : Mu} {s : St} {a : Act} {w : World} {K : St → Prop} {Q : Exit → Act → World → Prop}
    (hm : Models w0 I μ s a w) (hf : ∀ n ∈ freshN base, μ n = none) (h : stepS P Γ ops i base s K) :
    wpOp P ops Q i (fun a' w' => ∃ μ' s', Models w0 I μ' s' a' w' ∧ (∀ n l, μ' n = some l → μ n = some l ∨ n ∈ freshN base) ∧ K s') a w := by
  unfold stepS at h
  simp only [St.applyK_eq, fSp_eq] at h
  unfold wpOp
  split at h
  · rename_i hi
    rw [hi]
    exact ⟨μ, s, hm, fun n l hl => .inl hl, h⟩
  · rename_i o hi
    rw [hi]
    simp only []
    split at h
    · rename_i hw
      rw [wantedS_ok hm hw]
      simp only [if_true]
      left
      have hk : (opReq P Γ base (evS s.slots) o.op).pre s.heap fun r => (concV (isGuard ops i) r).wp fun res => K (s.apply o.dst base (opReq P Γ base (evS s.slots) o.op).wr res) := Out.wp_bind.1 h
      have hs := op_sound hΓ (Q := Q) hm.hm (evS_ok hm) hf hk
      refine Oper.wp_mono (fun a' w' hc => ?_) hs
      obtain ⟨v, μ', r, rfl, hr, he⟩ := conc_came hc
      exact ⟨μ', _, hm.apply o.dst hf he, he.dom, hr⟩
    · rename_i hw
      rw [wantedS_ok hm hw]
      simp only [Bool.false_eq_true, if_false]
      exact ⟨μ, _, hm.skip o.dst, fun n l hl => .inl hl, h⟩
    · exact h.elim

/-- names are taken below a bound -/
def Dom (μ : Mu) (n : Nat) : Prop := ∀ m l, μ m = some l → m < n
/-- a post of states -/
def At (w0 : World) (I : Nat → Prop) (K : St → Prop) (a : Act) (w : World) : Prop := ∃ μ s, Models w0 I μ s a w ∧ Dom μ s.next ∧ K s

def runP (P : Program) (Γ : Env) (ops : Array Oper) (base0 : Nat) : List Nat → St → (St → Prop) → Prop
  | [], s, K => K s
  | i :: is, s, K => stepS P Γ ops i (base0 + 4 * i) s fun s' => runP P Γ ops base0 is s' K
def regionP (P : Program) (Γ : Env) (ops : Array Oper) (s : St) (K : St → Prop) : Prop :=
  fN s.next fun nx => runP P Γ ops nx (List.range ops.size) s fun s' => fN (nx + 4 * ops.size) fun n2 => K ⟨s'.slots, s'.heap, n2⟩
theorem mem_freshN {n base : Nat} : n ∈ freshN base ↔ base ≤ n ∧ n < base + 4 := by
  simp [freshN]; omega
theorem runP_sound {P : Program} {Γ : Env} (hΓ : EnvOk P Γ) {ops : Array Oper} {base0 : Nat} {w0 : World} {I : Nat → Prop} {K : St → Prop} {Q : Exit → Act → World → Prop}
    (hQ : ∀ a w, (∃ μ s, Models w0 I μ s a w ∧ Dom μ (base0 + 4 * ops.size) ∧ K s) → Q .normal a w) :
    ∀ (k i : Nat) (μ : Mu) (s : St) (a : Act) (w : World), i + k = ops.size → Models w0 I μ s a w → Dom μ (base0 + 4 * i) → runP P Γ ops base0 (List.range' i k) s K → wpOps P ops Q (List.range' i k) a w
  | 0, i, μ, s, a, w, hn, hm, hd, h => by
    simp only [List.range'_zero, wpOps]
    exact hQ a w ⟨μ, s, hm, by rw [← hn]; exact hd, h⟩
  | k + 1, i, μ, s, a, w, hn, hm, hd, h => by
    simp only [List.range'_succ] at h ⊢
    rw [wpOps_cons]
    have hf : ∀ n ∈ freshN (base0 + 4 * i), μ n = none := fun n hn' => by
      rw [mem_freshN] at hn'
      cases hx : μ n with
      | none => rfl
      | some l => have := hd n l hx; omega
    refine wpOp_mono (fun a' w' hh => ?_) (step_sound hΓ hm hf h)
    obtain ⟨μ', s', hm', hd', hr⟩ := hh
    refine runP_sound hΓ hQ k (i + 1) μ' s' a' w' (by omega) hm' (fun n l hl => ?_) hr
    rcases hd' n l hl with h1 | h1
    · have := hd n l h1; omega
    · rw [mem_freshN] at h1; omega
theorem Models.next {w0 : World} {I : Nat → Prop} {μ : Mu} {s : St} {a : Act} {w : World} (hm : Models w0 I μ s a w) (n : Nat) : Models w0 I μ { s with next := n } a w := ⟨hm.size, hm.slots, hm.defers, hm.hm, hm.mine, hm.fr⟩
theorem regionP_sound {P : Program} {Γ : Env} (hΓ : EnvOk P Γ) {ops : Array Oper} {id : Nat} {w0 : World} {I : Nat → Prop} {μ : Mu} {s : St} {a : Act} {w : World} {K : St → Prop} {Q : Exit → Act → World → Prop}
    (hm : Models w0 I μ s a w) (hd : Dom μ s.next) (hQ : ∀ a w, At w0 I K a w → Q .normal a w) (h : regionP P Γ ops s K) : (Code.region id ops false).wp P Q a w := by
  unfold regionP at h
  simp only [fN_eq] at h
  refine wp_region ?_
  rw [List.range_eq_range']
  refine runP_sound hΓ (base0 := s.next) (K := fun s' => K { s' with next := s.next + 4 * ops.size }) (fun a' w' ⟨μ', s', hm', hd', hk⟩ => hQ a' w' ⟨μ', _, hm'.next _, hd', hk⟩) ops.size 0 μ s a w (by omega) hm (by simpa using hd) ?_
  rw [← List.range_eq_range']
  exact h
end Go.Proofs.Ytcaipfdnadlkdaa.Sx

namespace Go.Proofs.Ytcaipfdnadlkdaa.Sx
open Go
set_option linter.unusedVariables false
set_option linter.unusedSimpArgs false

def depsOf (o : Oper) : List Nat := o.after.toList.filterMap fun e => if Region.binds .any e then some e.on else none
def mask (tab : List Nat) : List Nat → Nat
  | [] => 0
  | e :: es => 2 ^ e ||| (tab.getD e 0 ||| mask tab es)
def tabOf : List (List Nat) → List Nat → List Nat
  | [], acc => acc
  | es :: rest, acc => tabOf rest (acc ++ [mask acc es])
def ancTab (ops : Array Oper) : List Nat := tabOf (ops.toList.map depsOf) []
def bit (tab : List Nat) (i j : Nat) : Bool := (tab.getD i 0).testBit j
def inter (a b : List Nat) : Bool := a.any fun x => b.contains x
def clash (rd wr rd' wr' : List Nat) : Bool := inter wr rd' || inter wr wr' || inter rd wr'
abbrev Log := List (Nat × List Nat × List Nat)
def logOk (tab : List Nat) (i : Nat) (rd wr : List Nat) (g : Log) : Bool := g.all fun x => bit tab i x.1 || !clash rd wr x.2.1 x.2.2
def namesOk (tab : List Nat) (base0 i : Nat) (ns : List Nat) : Bool := ns.all fun n => decide (n < base0) || (bit tab i ((n - base0) / 4) && decide ((n - base0) / 4 < i))
def stepD (P : Program) (Γ : Env) (ops : Array Oper) (tab : List Nat) (base0 i : Nat) (s : St) (g : Log) (K : St → Log → Prop) : Prop :=
  match ops[i]? with
  | none => K s g
  | some o => match wantedS ops s.slots o with
    | some true =>
      if logOk tab i (reqAt P Γ ops i (base0 + 4 * i) s.slots o).rd (reqAt P Γ ops i (base0 + 4 * i) s.slots o).wr g && namesOk tab base0 i ((reqAt P Γ ops i (base0 + 4 * i) s.slots o).rd ++ (reqAt P Γ ops i (base0 + 4 * i) s.slots o).wr) then
        (reqAt P Γ ops i (base0 + 4 * i) s.slots o).pre s.heap fun res => s.applyK o.dst (base0 + 4 * i) (reqAt P Γ ops i (base0 + 4 * i) s.slots o).wr res fun s' => fNs (reqAt P Γ ops i (base0 + 4 * i) s.slots o).rd fun rd => fNs (reqAt P Γ ops i (base0 + 4 * i) s.slots o).wr fun wr => K s' ((i, rd, wr) :: g)
      else False
    | some false => fSp (putS s.slots o.dst (.t [])) fun sl => K ⟨sl, s.heap, s.next⟩ g
    | none => False
def runD (P : Program) (Γ : Env) (ops : Array Oper) (tab : List Nat) (base0 : Nat) : List Nat → St → Log → (St → Prop) → Prop
  | [], s, g, K => K s
  | i :: is, s, g, K => stepD P Γ ops tab base0 i s g fun s' g' => runD P Γ ops tab base0 is s' g' K
/-- two operations that stand in no order name no slot in common -/
def apartOk (ops : Array Oper) (tab : List Nat) : Bool :=
  (List.range ops.size).all fun i => (List.range i).all fun q => bit tab i q || match ops[q]?, ops[i]? with
    | some oq, some oi => Oper.apart ops oq oi
    | _, _ => true
/-- edges go back -/
def edgesOk (ops : Array Oper) : Bool :=
  (List.range ops.size).all fun i => match ops[i]? with
    | some o => (depsOf o).all fun e => decide (e < i)
    | none => true
def regionD (P : Program) (Γ : Env) (ops : Array Oper) (s : St) (K : St → Prop) : Prop :=
  if edgesOk ops && apartOk ops (ancTab ops) then fN s.next fun nx => fNs (ancTab ops) fun tab => runD P Γ ops tab nx (List.range ops.size) s [] fun s' => fN (nx + 4 * ops.size) fun n2 => K ⟨s'.slots, s'.heap, n2⟩ else False

/-! ### the table of what stands ahead -/
theorem mask_bit {tab : List Nat} {q : Nat} : ∀ {es : List Nat}, (mask tab es).testBit q = true → ∃ e ∈ es, q = e ∨ (tab.getD e 0).testBit q = true
  | [], h => by simp [mask] at h
  | e :: es, h => by
    simp only [mask, Nat.testBit_or, Bool.or_eq_true] at h
    rcases h with h | h | h
    · rw [Nat.testBit_two_pow] at h
      exact ⟨e, by simp, .inl (by simpa using Eq.symm (by simpa using h))⟩
    · exact ⟨e, by simp, .inr h⟩
    · obtain ⟨e', h1, h2⟩ := mask_bit h
      exact ⟨e', by simp [h1], h2⟩
theorem tabOf_spec : ∀ (rest : List (List Nat)) (acc : List Nat) (all : List (List Nat)) (done : List (List Nat)), all = done ++ rest → acc.length = done.length →
    (∀ i es, done[i]? = some es → ∀ q, (acc.getD i 0).testBit q = true → ∃ e ∈ es, q = e ∨ ((acc.take i).getD e 0).testBit q = true) →
    ∀ i es, all[i]? = some es → ∀ q, ((tabOf rest acc).getD i 0).testBit q = true → ∃ e ∈ es, q = e ∨ (((tabOf rest acc).take i).getD e 0).testBit q = true
  | [], acc, all, done, ha, hl, h => by
    simp at ha
    subst ha
    exact h
  | es0 :: rest, acc, all, done, ha, hl, h => by
    simp only [tabOf]
    refine tabOf_spec rest (acc ++ [mask acc es0]) all (done ++ [es0]) (by simp [ha]) (by simp [hl]) ?_
    intro i es hi q hq
    rcases Nat.lt_or_ge i done.length with hlt | hge
    · rw [List.getElem?_append_left hlt] at hi
      have e1 : (acc ++ [mask acc es0]).getD i 0 = acc.getD i 0 := by
        simp [List.getD, List.getElem?_append_left (by omega : i < acc.length)]
      rw [e1] at hq
      rw [List.take_append_of_le_length (by omega)]
      exact h i es hi q hq
    · have hil : i < (done ++ [es0]).length := (List.getElem?_eq_some_iff.1 hi).1
      have hie : i = done.length := by simp at hil; omega
      subst hie
      simp at hi
      subst hi
      have e1 : (acc ++ [mask acc es0]).getD done.length 0 = mask acc es0 := by
        rw [← hl]; simp [List.getD]
      rw [e1] at hq
      have e2 : (acc ++ [mask acc es0]).take done.length = acc := by rw [← hl]; simp
      rw [e2]
      exact mask_bit hq
theorem anc_step {ops : Array Oper} {i q : Nat} {o : Oper} (hi : ops[i]? = some o) (h : bit (ancTab ops) i q = true) : ∃ e ∈ depsOf o, q = e ∨ bit (ancTab ops) e q = true := by
  have := tabOf_spec (ops.toList.map depsOf) [] (ops.toList.map depsOf) [] (by simp) rfl (by simp) i (depsOf o) (by simp [hi]) q h
  obtain ⟨e, he, h2⟩ := this
  refine ⟨e, he, h2.imp id fun h3 => ?_⟩
  unfold bit ancTab
  rw [List.getD, List.getElem?_take] at h3
  split at h3
  · exact h3
  · simp at h3

/-! ### what does not hang on each other -/
theorem upd_comm (h : Nat → Option Blk) {n m : Nat} (b c : Option Blk) (hne : n ≠ m) : upd (upd h n b) m c = upd (upd h m c) n b := by
  funext x
  simp only [upd]
  by_cases h1 : x = m <;> by_cases h2 : x = n <;> simp_all
theorem updL_upd {n : Nat} {b : Option Blk} : ∀ (ms : List Nat) (cs : List (Option Blk)) (h : Nat → Option Blk), n ∉ ms → updL (upd h n b) ms cs = upd (updL h ms cs) n b
  | [], _, _, _ => rfl
  | m :: ms, [], _, _ => rfl
  | m :: ms, c :: cs, h, hn => by
    simp only [List.mem_cons, not_or] at hn
    simp only [updL]
    rw [upd_comm h b c hn.1, updL_upd ms cs (upd h m c) hn.2]
theorem updL_comm : ∀ (ns : List Nat) (bs : List (Option Blk)) (ms : List Nat) (cs : List (Option Blk)) (h : Nat → Option Blk), (∀ x ∈ ns, x ∉ ms) → updL (updL h ns bs) ms cs = updL (updL h ms cs) ns bs
  | [], _, _, _, _, _ => rfl
  | n :: ns, [], _, _, _, _ => rfl
  | n :: ns, b :: bs, ms, cs, h, hd => by
    simp only [updL]
    rw [updL_comm ns bs ms cs (upd h n b) fun x hx => hd x (by simp [hx]), updL_upd ms cs h (hd n (by simp))]
theorem updL_other {m : Nat} : ∀ (ns : List Nat) (bs : List (Option Blk)) (h : Nat → Option Blk), m ∉ ns → updL h ns bs m = h m
  | [], _, _, _ => rfl
  | n :: ns, [], _, _ => rfl
  | n :: ns, b :: bs, h, hn => by
    simp only [List.mem_cons, not_or] at hn
    simp only [updL]
    rw [updL_other ns bs _ hn.2]
    simp [upd, hn.1]
theorem applyH_other {h : Nat → Option Blk} {base : Nat} {wr : List Nat} {r : Res} {m : Nat} (h1 : m ∉ wr) (h2 : m ∉ freshN base) : applyH h base wr r m = h m := by
  unfold applyH
  rw [updL_other _ _ _ h2, updL_other _ _ _ h1]
theorem applyH_comm {h : Nat → Option Blk} {b1 b2 : Nat} {w1 w2 : List Nat} {r1 r2 : Res} (hd : ∀ x, (x ∈ w1 ∨ x ∈ freshN b1) → x ∉ w2 ∧ x ∉ freshN b2) :
    applyH (applyH h b1 w1 r1) b2 w2 r2 = applyH (applyH h b2 w2 r2) b1 w1 r1 := by
  unfold applyH
  rw [updL_comm (freshN b1) _ w2 _ _ fun x hx => (hd x (.inr hx)).1, updL_comm w1 _ w2 _ _ fun x hx => (hd x (.inl hx)).1, updL_comm (freshN b1) _ (freshN b2) _ _ fun x hx => (hd x (.inr hx)).2,
    updL_comm w1 _ (freshN b2) _ _ fun x hx => (hd x (.inl hx)).2]
theorem putS_comm {l : List SV} {d1 d2 : Option Nat} {x y : SV} (h : ∀ d, d1 = some d → d2 ≠ some d) : putS (putS l d1 x) d2 y = putS (putS l d2 y) d1 x := by
  cases d1 with
  | none => rfl
  | some a =>
    cases d2 with
    | none => rfl
    | some b =>
      have : a ≠ b := fun e => h a rfl (by rw [e])
      simp [putS, List.set_comm _ _ this]
theorem evS_put {l : List SV} {d : Option Nat} {x : SV} {o : Operand} (h : ∀ t, d = some t → o ≠ .tmp t) : evS (putS l d x) o = evS l o := by
  cases d with
  | none => rfl
  | some t =>
    cases o with
    | tmp u =>
      have : t ≠ u := fun e => h t rfl (by rw [e])
      simp [evS, putS, List.getD, List.getElem?_set_ne this]
    | _ => rfl
theorem opReq_congr {P : Program} {Γ : Env} {base : Nat} {ev ev' : Operand → SV} (op : Op) (h : ∀ x ∈ op.operands, ev x = ev' x) : opReq P Γ base ev op = opReq P Γ base ev' op := by
  have lmap : ∀ l : List Operand, (∀ x ∈ l, ev x = ev' x) → l.map ev = l.map ev' := fun l hl => List.map_congr_left hl
  cases op <;> simp only [Op.operands] at h <;> simp only [opReq]
  case build t ps =>
    congr 2
    refine List.map_congr_left fun p hp => ?_
    rw [h p.2 (by simpa using ⟨p.1, by simpa using hp⟩)]
  case buildSlice t len ps =>
    congr 1
    refine List.map_congr_left fun p hp => ?_
    rw [h p.2 (by simpa using ⟨p.1, by simpa using hp⟩)]
  case slice t x lo hi mx =>
    have hx := h x (by simp)
    have hl : lo.map ev = lo.map ev' := by cases lo with
      | none => rfl
      | some y => simp [h y (by simp)]
    have hh : hi.map ev = hi.map ev' := by cases hi with
      | none => rfl
      | some y => simp [h y (by simp)]
    have hm : mx.map ev = mx.map ev' := by cases mx with
      | none => rfl
      | some y => simp [h y (by simp)]
    rw [hx, hl, hh, hm]
  case call c =>
    have hargs : c.args.toList.map ev = c.args.toList.map ev' := lmap _ fun x hx => h x (by simp [Call.operands]; right; simpa using hx)
    unfold callReq
    cases hc : c.callee with
    | invoke r m => rfl
    | value f =>
      have hf : ev f = ev' f := h f (by simp [Call.operands, hc])
      simp only [hf, hargs]
    | builtin b =>
      have hm : ∀ x ∈ c.args.toList, ev x = ev' x := fun x hx => h x (by simp [Call.operands]; right; simpa using hx)
      cases b <;> simp only []
      · split
        · rename_i x y t tx ha ht
          rw [hm x (by simp [ha]), hm y (by simp [ha])]
        · rfl
      · split
        · rename_i x t ha ht
          rw [hm x (by simp [ha])]
        · rfl
      · split
        · rename_i x ys ha
          rw [hm x (by simp [ha]), lmap ys fun y hy => hm y (by simp [ha, hy])]
        · rfl
      · split
        · rename_i x ys ha
          rw [hm x (by simp [ha]), lmap ys fun y hy => hm y (by simp [ha, hy])]
        · rfl
  all_goals (first | rfl | (simp only [List.mem_toArray, List.mem_cons, List.not_mem_nil, or_false, forall_eq_or_imp, forall_eq] at h; simp only [h]; done) | (simp_all; done))
theorem reqAt_put {P : Program} {Γ : Env} {ops : Array Oper} {i base : Nat} {l : List SV} {o : Oper} {d : Option Nat} {x : SV} (h : ∀ t, d = some t → t ∉ o.looksAt ops) : reqAt P Γ ops i base (putS l d x) o = reqAt P Γ ops i base l o := by
  unfold reqAt
  rw [opReq_congr o.op fun y hy => evS_put fun t ht hyt => h t ht (by
    subst hyt
    exact List.mem_append_left _ (List.mem_filterMap.2 ⟨.tmp t, by simpa using hy, rfl⟩))]
theorem wantedS_put {ops : Array Oper} {l : List SV} {o : Oper} {d : Option Nat} {x : SV} (h : ∀ t, d = some t → t ∉ o.looksAt ops) : wantedS ops (putS l d x) o = wantedS ops l o := by
  cases d with
  | none => rfl
  | some t =>
    unfold wantedS
    cases hg : o.guard with
    | none => rfl
    | some gw =>
      obtain ⟨j, want⟩ := gw
      simp only []
      cases hj : (ops[j]?).bind (·.dst) with
      | none => rfl
      | some u =>
        have hne : t ≠ u := fun e => h t rfl (by subst e; simp [Oper.looksAt, hg, hj])
        simp [putS, List.getD, List.getElem?_set_ne hne]
end Go.Proofs.Ytcaipfdnadlkdaa.Sx
