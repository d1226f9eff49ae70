/- States as symbols; what an operation does to one; that the world goes with it. No Go text in sight. -/
import Derived.Test.YtplpmnippkkkkaaSxA
namespace Go.Proofs.Ytplpmnippkkkkaa.Sx
open Go
set_option linter.unusedVariables false
set_option linter.unusedSimpArgs false

structure St where
  slots : List SV
  heap : Nat → Option Blk
  next : Nat

def upd (h : Nat → Option Blk) (n : Nat) (b : Option Blk) : Nat → Option Blk := fun m => if m = n then b else h m
def updL : (Nat → Option Blk) → List Nat → List (Option Blk) → Nat → Option Blk
  | h, n :: ns, b :: bs => updL (upd h n b) ns bs
  | h, _, _ => h
/-- what an operation comes to: its value, the blocks that it wrote as they are then ('none': given up), new blocks -/
structure Res where
  v : SV
  ws : List (Option Blk)
  ns : List Blk
def freshN (base : Nat) : List Nat := [base, base + 1, base + 2, base + 3]
def putS (slots : List SV) (dst : Option Nat) (x : SV) : List SV :=
  match dst with
  | some d => slots.set d x
  | none => slots
def applyH (h : Nat → Option Blk) (base : Nat) (wr : List Nat) (r : Res) : Nat → Option Blk := updL (updL h wr r.ws) (freshN base) (r.ns.map some)
def St.apply (s : St) (dst : Option Nat) (base : Nat) (wr : List Nat) (r : Res) : St :=
  { s with slots := putS s.slots dst r.v, heap := applyH s.heap base wr r }

theorem updL_get : ∀ (ns : List Nat) (bs : List (Option Blk)) (h : Nat → Option Blk) (m : Nat), ns.Nodup →
    (∃ (j : Nat) (b : Option Blk), ns[j]? = some m ∧ bs[j]? = some b ∧ updL h ns bs m = b) ∨ ((∀ (j : Nat) (b : Option Blk), ns[j]? = some m → bs[j]? = some b → False) ∧ updL h ns bs m = h m)
  | [], _, _, _, _ => .inr ⟨fun j b h => by simp at h, rfl⟩
  | n :: ns, [], h, m, _ => .inr ⟨fun j b _ h => by simp at h, rfl⟩
  | n :: ns, b :: bs, h, m, hn => by
    obtain ⟨h1, h2⟩ := List.nodup_cons.1 hn
    rcases updL_get ns bs (upd h n b) m h2 with ⟨j, c, e1, e2, e3⟩ | ⟨e1, e2⟩
    · exact .inl ⟨j + 1, c, by simpa using e1, by simpa using e2, e3⟩
    · by_cases hm : m = n
      · subst hm
        exact .inl ⟨0, b, rfl, rfl, by simp only [updL]; rw [e2]; simp [upd]⟩
      · refine .inr ⟨fun j c hj hc => ?_, by simp only [updL]; rw [e2]; simp [upd, hm]⟩
        cases j with
        | zero => simp at hj; exact hm hj.symm
        | succ j => exact e1 j c (by simpa using hj) (by simpa using hc)

theorem nodup_idx {α : Type} : ∀ {l : List α} {i j : Nat} {x : α}, l.Nodup → l[i]? = some x → l[j]? = some x → i = j
  | [], i, j, x, _, h, _ => by simp at h
  | a :: l, 0, 0, x, _, _, _ => rfl
  | a :: l, 0, j + 1, x, hn, h, k => by
    simp at h k
    subst h
    exact absurd (List.mem_of_getElem? k) (List.nodup_cons.1 hn).1
  | a :: l, i + 1, 0, x, hn, h, k => by
    simp at h k
    subst k
    exact absurd (List.mem_of_getElem? h) (List.nodup_cons.1 hn).1
  | a :: l, i + 1, j + 1, x, hn, h, k => by
    exact congrArg (· + 1) (nodup_idx (x := x) (List.nodup_cons.1 hn).2 (by simpa using h) (by simpa using k))

structure HeapM (μ : Mu) (h : Nat → Option Blk) (w : World) : Prop where
  ok : ∀ n b, h n = some b → ∃ l, μ n = some l ∧ b.ok μ w l
  apart : ∀ n m b c l k x, n ≠ m → h n = some b → h m = some c → μ n = some l → μ m = some k → b.excl w l x → ¬c.uses w k x

theorem heap_lt {w : World} {x : Nat} {o : Obj} (h : w.heap[x]? = some o) : x < w.heap.size := by
  rcases Nat.lt_or_ge x w.heap.size with h' | h'
  · exact h'
  · rw [Array.getElem?_eq_none h'] at h; cases h
theorem ownOk.lt {μ : Mu} {w : World} {l : Loc} {t : TypeId} {e n : Nat} {f : Nat → List SC} (hb : ownOk μ w l t e n f) (hno : Value.noRow l.hd = false) : l.b < w.heap.size := by
  obtain ⟨a, c, xs, h1, _, _, _, h5, _⟩ := hb
  have hc : 0 < c := by
    rcases Nat.eq_zero_or_pos c with h0 | h0
    · subst h0; rw [h1] at hno; cases hno
    · exact h0
  obtain ⟨_, cur, hcur, _⟩ := h5 hc
  exact heap_lt hcur
theorem objOk.lt {w : World} {l : Loc} {t : TypeId} {hd : List Int} {L : List Value} {x : Nat} (hb : objOk w l t hd L) (h : objFoot w l x) : x < w.heap.size := by
  obtain ⟨h0, a, c, h1, h2, h3, h4⟩ := hb
  rcases h with rfl | h
  · exact heap_lt h1
  · rw [h1] at h
    obtain ⟨b, rfl, hc, rfl⟩ := rowsOf_inv h
    obtain ⟨b', off, cur, tc, g1, g2, g3, g4, g5⟩ := h4 hc
    cases g1
    exact heap_lt g3
theorem Blk.uses_lt {μ : Mu} {w : World} {l : Loc} {b : Blk} {x : Nat} (hb : b.ok μ w l) (h : b.uses w l x) : x < w.heap.size := by
  cases b with
  | cells t cs =>
    obtain ⟨_, vs, hv, _⟩ := hb
    obtain rfl : l.b = x := h
    exact heap_lt hv
  | view e n f => obtain ⟨hn, rfl⟩ := h; exact hb.1 (by omega)
  | own t e n f => obtain ⟨hn, rfl⟩ := h; exact ownOk.lt hb hn
  | ints k L => obtain ⟨hn, rfl⟩ := h; exact hb.1 (by omega)
  | oints k L => obtain ⟨hn, rfl⟩ := h; obtain ⟨t, hb⟩ := hb; exact hb.lt hn
  | obj t hd L => exact objOk.lt hb h

/-- what an operation did to memory -/
structure Eff (μ μ' : Mu) (h : Nat → Option Blk) (w : World) (base : Nat) (wr : List Nat) (r : Res) (v : Value) (w' : World) : Prop where
  ext : Ext μ μ'
  dom : ∀ n l, μ' n = some l → μ n = some l ∨ n ∈ freshN base
  val : r.v.ok μ' v
  os : w'.os = w.os
  tape : w'.tape = w.tape
  output : w'.output = w.output
  size : w.heap.size ≤ w'.heap.size
  keep : ∀ x, x < w.heap.size → (∀ n b l, n ∈ wr → h n = some b → μ n = some l → ¬b.excl w l x) → w'.heap[x]? = w.heap[x]?
  wrs : wr.Nodup
  wsl : r.ws.length = wr.length
  nsl : r.ns.length ≤ 4
  olds : ∀ (j n : Nat) (b' : Blk), wr[j]? = some n → r.ws[j]? = some (some b') → ∃ b l, h n = some b ∧ μ n = some l ∧ b'.ok μ' w' l ∧ (∀ x, b'.uses w' l x → b.excl w l x ∨ (w.heap.size ≤ x ∧ wr = [n] ∧ r.ns = []))
  news : ∀ (j : Nat) (b : Blk), r.ns[j]? = some b → ∃ l, μ' (base + j) = some l ∧ b.ok μ' w' l ∧ ∀ x, b.uses w' l x → w.heap.size ≤ x ∨ (∃ (k n : Nat) (c : Blk) (m : Loc), wr[k]? = some n ∧ r.ws[k]? = some none ∧ h n = some c ∧ μ n = some m ∧ c.excl w m x)
  newsApart : ∀ (j k : Nat) (b c : Blk) (l m : Loc) (x : Nat), j ≠ k → r.ns[j]? = some b → r.ns[k]? = some c → μ' (base + j) = some l → μ' (base + k) = some m → b.excl w' l x → ¬c.uses w' m x

/-- an operation that touches no memory -/
theorem Eff.pure {μ : Mu} {h : Nat → Option Blk} {w : World} {base : Nat} {x : SV} {v : Value} (hv : x.ok μ v) : Eff μ μ h w base [] ⟨x, [], []⟩ v w :=
  { ext := Ext.refl μ, dom := fun _ _ h => .inl h, val := hv, os := rfl, tape := rfl, output := rfl, size := Nat.le_refl _, keep := fun _ _ _ => rfl, wrs := List.nodup_nil, wsl := rfl, nsl := by simp,
    olds := fun j n b' h => by simp at h, news := fun j b h => by simp at h, newsApart := fun j k b c l m x _ h => by simp at h }

theorem freshN_get {base m : Nat} {j : Nat} (h : (freshN base)[j]? = some m) : m = base + j ∧ j < 4 := by
  match j, h with
  | 0, h => simp [freshN] at h; omega
  | 1, h => simp [freshN] at h; omega
  | 2, h => simp [freshN] at h; omega
  | 3, h => simp [freshN] at h; omega
  | j + 4, h => simp [freshN] at h
theorem freshN_nodup (base : Nat) : (freshN base).Nodup := by simp [freshN]

/-- an entry of the heap behind an operation: a new one, or one that was there -/
theorem applyH_cases {μ μ' : Mu} {h : Nat → Option Blk} {w w' : World} {base : Nat} {wr : List Nat} {r : Res} {v : Value} (hm : HeapM μ h w) (hf : ∀ n ∈ freshN base, μ n = none)
    (he : Eff μ μ' h w base wr r v w') {n : Nat} {b : Blk} (hb : applyH h base wr r n = some b) :
    ∃ l, μ' n = some l ∧ b.ok μ' w' l ∧
      ((∃ (j : Nat), n = base + j ∧ r.ns[j]? = some b ∧ (∀ x, b.uses w' l x → w.heap.size ≤ x ∨ (∃ (k n : Nat) (c : Blk) (m : Loc), wr[k]? = some n ∧ r.ws[k]? = some none ∧ h n = some c ∧ μ n = some m ∧ c.excl w m x)))
       ∨ (∃ b0, h n = some b0 ∧ μ n = some l ∧ b0.ok μ w l ∧ (∀ x, b.uses w' l x → b0.uses w l x ∨ (w.heap.size ≤ x ∧ wr = [n] ∧ r.ns = [])) ∧ (∀ x, b.excl w' l x → b0.excl w l x ∨ (w.heap.size ≤ x ∧ wr = [n] ∧ r.ns = [])) ∧ ∀ (k : Nat), wr[k]? = some n → r.ws[k]? ≠ some none)) := by
  unfold applyH at hb
  rcases updL_get (freshN base) (r.ns.map some) (updL h wr r.ws) n (freshN_nodup base) with ⟨j, c, e1, e2, e3⟩ | ⟨e1, e2⟩
  · obtain ⟨rfl, hj⟩ := freshN_get e1
    rw [hb] at e3
    subst e3
    have hns : r.ns[j]? = some b := by simpa using e2
    obtain ⟨l, h1, h2, h3⟩ := he.news j b hns
    exact ⟨l, h1, h2, .inl ⟨j, rfl, hns, h3⟩⟩
  · rw [hb] at e2
    rcases updL_get wr r.ws h n he.wrs with ⟨j, c, f1, f2, f3⟩ | ⟨f1, f2⟩
    · rw [← e2] at f3
      subst f3
      obtain ⟨b0, l, h1, h2, h3, h4⟩ := he.olds j n b f1 f2
      obtain ⟨l', hl', hok⟩ := hm.ok n b0 h1
      rw [h2] at hl'
      cases hl'
      refine ⟨l, he.ext _ _ h2, h3, .inr ⟨b0, h1, h2, hok, fun x hx => (h4 x hx).imp Blk.uses_of_excl id, fun x hx => h4 x (Blk.uses_of_excl hx), fun k hk hn => ?_⟩⟩
      have hjk : j = k := nodup_idx he.wrs f1 hk
      subst hjk
      rw [f2] at hn
      cases hn
    · rw [f2] at e2
      obtain ⟨l, hl, hok⟩ := hm.ok n b e2.symm
      have hnw : n ∉ wr := fun hmem => by
        obtain ⟨j, hj⟩ := List.getElem?_of_mem hmem
        have hjl : j < wr.length := (List.getElem?_eq_some_iff.1 hj).1
        exact f1 j _ hj (List.getElem?_eq_getElem (by rw [he.wsl]; exact hjl))
      have hkeep : ∀ x, b.uses w l x → w'.heap[x]? = w.heap[x]? := fun x hx => he.keep x (Blk.uses_lt hok hx) fun m c k hmw hc hk hex => hm.apart m n c b k l x (fun e => hnw (e ▸ hmw)) hc e2.symm hk hl hex hx
      exact ⟨l, he.ext _ _ hl, Blk.ok_world (Blk.ok_ext he.ext hok) he.size hkeep, .inr ⟨b, e2.symm, hl, hok, fun x h => .inl ((Blk.uses_world hkeep x).1.1 h), fun x h => .inl ((Blk.uses_world hkeep x).2.1 h), fun k hk => absurd (List.mem_of_getElem? hk) hnw⟩⟩

theorem HeapM.apply {μ μ' : Mu} {h : Nat → Option Blk} {w w' : World} {base : Nat} {wr : List Nat} {r : Res} {v : Value} (hm : HeapM μ h w) (hf : ∀ n ∈ freshN base, μ n = none)
    (he : Eff μ μ' h w base wr r v w') : HeapM μ' (applyH h base wr r) w' := by
  refine ⟨fun n b hb => ?_, fun n m b c l k x hne hb hc hl hk hx hu => ?_⟩
  · obtain ⟨l, h1, h2, _⟩ := applyH_cases hm hf he hb
    exact ⟨l, h1, h2⟩
  · obtain ⟨l', h1, _, h2⟩ := applyH_cases hm hf he hb
    obtain ⟨k', g1, _, g2⟩ := applyH_cases hm hf he hc
    rw [hl] at h1; cases h1
    rw [hk] at g1; cases g1
    rcases h2 with ⟨j, rfl, hj, hj2⟩ | ⟨b0, hb0, hl0, hok0, hu0, hx0, hnc0⟩
    · rcases g2 with ⟨i, rfl, hi, hi2⟩ | ⟨c0, hc0, hk0, hok1, hu1, hx1, hnc1⟩
      · exact he.newsApart j i b c l k x (fun e => hne (by rw [e])) hj hi hl hk hx hu
      · rcases hu1 x hu with hcu | ⟨_, _, hns⟩
        · rcases hj2 x (Blk.uses_of_excl hx) with hge | ⟨p, pn, pc, pm, a1, a2, a3, a4, a5⟩
          · have := Blk.uses_lt hok1 hcu; omega
          · exact hm.apart pn m pc c0 pm k x (fun e => hnc1 p (e ▸ a1) a2) a3 hc0 a4 hk0 a5 hcu
        · rw [hns] at hj; simp at hj
    · rcases g2 with ⟨i, rfl, hi, hi2⟩ | ⟨c0, hc0, hk0, hok1, hu1, hx1, hnc1⟩
      · rcases hx0 x hx with hbx | ⟨_, _, hns⟩
        · rcases hi2 x hu with hge | ⟨p, pn, pc, pm, a1, a2, a3, a4, a5⟩
          · have := Blk.uses_lt hok0 (Blk.uses_of_excl hbx); omega
          · exact hm.apart pn n pc b0 pm l x (fun e => hnc0 p (e ▸ a1) a2) a3 hb0 a4 hl0 a5 (Blk.uses_of_excl hbx)
        · rw [hns] at hi; simp at hi
      · rcases hx0 x hx with hbx | ⟨hbx, hwn, _⟩
        · rcases hu1 x hu with hcu | ⟨hcu, _, _⟩
          · exact hm.apart n m b0 c0 l k x hne hb0 hc0 hl0 hk0 hbx hcu
          · have := Blk.uses_lt hok0 (Blk.uses_of_excl hbx); omega
        · rcases hu1 x hu with hcu | ⟨hcu, hwm, _⟩
          · have := Blk.uses_lt hok1 hcu; omega
          · rw [hwn] at hwm
            exact hne (by simpa using hwm)

/-- what a function leaves alone -/
structure Fr (w0 : World) (I : Nat → Prop) (w : World) : Prop where
  os : w.os = w0.os
  tape : w.tape = w0.tape
  output : w.output = w0.output
  size : w0.heap.size ≤ w.heap.size
  block : ∀ x, x < w0.heap.size → ¬ I x → w.heap[x]? = w0.heap[x]?

structure Models (w0 : World) (I : Nat → Prop) (μ : Mu) (s : St) (a : Act) (w : World) : Prop where
  size : a.tmps.size = s.slots.length
  slots : ∀ (i : Nat) (x : SV), s.slots[i]? = some x → ∃ v, a.tmps[i]? = some v ∧ x.ok μ v
  defers : a.defers = []
  hm : HeapM μ s.heap w
  mine : ∀ n b l x, s.heap n = some b → μ n = some l → b.excl w l x → I x ∨ w0.heap.size ≤ x
  fr : Fr w0 I w

theorem Models.apply {w0 : World} {I : Nat → Prop} {μ μ' : Mu} {s : St} {a : Act} {w w' : World} {base : Nat} {wr : List Nat} {r : Res} {v : Value} (dst : Option Nat) (hm : Models w0 I μ s a w)
    (hf : ∀ n ∈ freshN base, μ n = none) (he : Eff μ μ' s.heap w base wr r v w') : Models w0 I μ' (s.apply dst base wr r) (a.put dst v) w' where
  size := by
    cases dst with
    | none => exact hm.size
    | some d => simpa [St.apply, putS, Act.put] using hm.size
  slots := fun i x hx => by
    cases dst with
    | none =>
      obtain ⟨u, hu, hok⟩ := hm.slots i x hx
      exact ⟨u, hu, SV.ok_ext he.ext hok⟩
    | some d =>
      simp only [St.apply, putS] at hx
      by_cases hd : d = i
      · subst hd
        have hlt : d < s.slots.length := by
          have := (List.getElem?_eq_some_iff.1 hx).1
          simpa using this
        simp [hlt] at hx
        subst hx
        exact ⟨v, by simp [Act.put, hm.size, hlt], he.val⟩
      · rw [List.getElem?_set_ne hd] at hx
        obtain ⟨u, hu, hok⟩ := hm.slots i x hx
        exact ⟨u, by simp [Act.put, Array.getElem?_setIfInBounds_ne hd, hu], SV.ok_ext he.ext hok⟩
  defers := by cases dst <;> exact hm.defers
  hm := hm.hm.apply hf he
  mine := fun n b l x hb hl hx => by
    obtain ⟨l', h1, _, h2⟩ := applyH_cases hm.hm hf he hb
    rw [hl] at h1; cases h1
    rcases h2 with ⟨j, rfl, hj, hj2⟩ | ⟨b0, hb0, hl0, hok0, hu0, hx0, hnc0⟩
    · rcases hj2 x (Blk.uses_of_excl hx) with hge | ⟨p, pn, pc, pm, a1, a2, a3, a4, a5⟩
      · exact .inr (Nat.le_trans hm.fr.size hge)
      · exact hm.mine pn pc pm x a3 a4 a5
    · rcases hx0 x hx with h | ⟨h, _, _⟩
      · exact hm.mine n b0 l x hb0 hl0 h
      · exact .inr (Nat.le_trans hm.fr.size h)
  fr :=
    { os := he.os.trans hm.fr.os, tape := he.tape.trans hm.fr.tape, output := he.output.trans hm.fr.output, size := Nat.le_trans hm.fr.size he.size
      block := fun x hx hi => by
        refine (he.keep x (Nat.lt_of_lt_of_le hx hm.fr.size) fun n b l _ hb hl hex => ?_).trans (hm.fr.block x hx hi)
        rcases hm.mine n b l x hb hl hex with h | h
        · exact hi h
        · omega }
/-! ### states written out: the same, but the kernel has nothing to reckon twice -/
def fN (n : Nat) (K : Nat → Prop) : Prop :=
  match n with
  | 0 => K 0
  | m + 1 => K (m + 1)
def fI (n : Int) (K : Int → Prop) : Prop :=
  match n with
  | .ofNat m => fN m fun m => K (.ofNat m)
  | .negSucc m => fN m fun m => K (.negSucc m)
def fKd (k : IntKind) (K : IntKind → Prop) : Prop :=
  match k with
  | .i8 => K .i8
  | .i16 => K .i16
  | .i32 => K .i32
  | .i64 => K .i64
  | .u8 => K .u8
  | .u16 => K .u16
  | .u32 => K .u32
  | .u64 => K .u64
def fBo (b : Bool) (K : Bool → Prop) : Prop :=
  match b with
  | true => K true
  | false => K false
def fC (c : SC) (K : SC → Prop) : Prop :=
  match c with
  | .num k n => fKd k fun k => fI n fun n => K (.num k n)
  | .int k n => fKd k fun k => K (.int k n)
  | .tru b => fBo b fun b => K (.tru b)
  | .boo b => K (.boo b)
  | .str z => K (.str z)
  | .nil => K .nil
  | .ptr b i e j => fN b fun b => fN e fun e => K (.ptr b i e j)
  | .sli b i e j n c q => fN b fun b => fN e fun e => fBo q fun q => K (.sli b i e j n c q)
  | .own b n c q => fN b fun b => fBo q fun q => K (.own b n c q)
  | .nos => K .nos
  | .fn f => K (.fn f)
def fL : List SC → (List SC → Prop) → Prop
  | [], K => K []
  | c :: cs, K => fC c fun c => fL cs fun cs => K (c :: cs)
def fS1 (x : S1) (K : S1 → Prop) : Prop :=
  match x with
  | .c x => fC x fun x => K (.c x)
  | .a cs => fL cs fun cs => K (.a cs)
def fT : List S1 → (List S1 → Prop) → Prop
  | [], K => K []
  | c :: cs, K => fS1 c fun c => fT cs fun cs => K (c :: cs)
def fV (x : SV) (K : SV → Prop) : Prop :=
  match x with
  | .s x => fS1 x fun x => K (.s x)
  | .t xs => fT xs fun xs => K (.t xs)
  | .u => K .u
def fVs : List SV → (List SV → Prop) → Prop
  | [], K => K []
  | c :: cs, K => fV c fun c => fVs cs fun cs => K (c :: cs)
/-- a list whose elements are written out already -/
def fSp : List SV → (List SV → Prop) → Prop
  | [], K => K []
  | c :: cs, K => fSp cs fun cs => K (c :: cs)
def fSi : List Int → (List Int → Prop) → Prop
  | [], K => K []
  | c :: cs, K => fSi cs fun cs => K (c :: cs)
def fOL (l : OL) (K : OL → Prop) : Prop :=
  match l with
  | .ints k l => fKd k fun k => K (.ints k l)
  | .strs l => K (.strs l)
  | .raws l => K (.raws l)
def fBk (b : Blk) (K : Blk → Prop) : Prop :=
  match b with
  | .obj t hd l => fN t fun t => fSi hd fun hd => fOL l fun l => K (.obj t hd l)
  | .cells t cs => fN t fun t => fL cs fun cs => K (.cells t cs)
  | .view e n f => fN e fun e => K (.view e n f)
  | .own t e n f => fN t fun t => fN e fun e => K (.own t e n f)
  | .ints k l => fKd k fun k => K (.ints k l)
  | .oints k l => fKd k fun k => K (.oints k l)
def fBO (b : Option Blk) (K : Option Blk → Prop) : Prop :=
  match b with
  | none => K none
  | some b => fBk b fun b => K (some b)
def fBs : List Blk → (List Blk → Prop) → Prop
  | [], K => K []
  | c :: cs, K => fBk c fun c => fBs cs fun cs => K (c :: cs)
def fBOs : List (Option Blk) → (List (Option Blk) → Prop) → Prop
  | [], K => K []
  | c :: cs, K => fBO c fun c => fBOs cs fun cs => K (c :: cs)
def fNs : List Nat → (List Nat → Prop) → Prop
  | [], K => K []
  | c :: cs, K => fN c fun c => fNs cs fun cs => K (c :: cs)
theorem fN_eq (n : Nat) (K : Nat → Prop) : fN n K = K n := by cases n <;> rfl
theorem fI_eq (n : Int) (K : Int → Prop) : fI n K = K n := by cases n <;> simp only [fI, fN_eq]
theorem fKd_eq (k : IntKind) (K : IntKind → Prop) : fKd k K = K k := by cases k <;> rfl
theorem fBo_eq (b : Bool) (K : Bool → Prop) : fBo b K = K b := by cases b <;> rfl
theorem fC_eq (c : SC) (K : SC → Prop) : fC c K = K c := by cases c <;> simp only [fC, fKd_eq, fI_eq, fBo_eq, fN_eq]
theorem fL_eq : ∀ (cs : List SC) (K : List SC → Prop), fL cs K = K cs
  | [], _ => rfl
  | c :: cs, K => by simp only [fL, fC_eq, fL_eq cs]
theorem fS1_eq (x : S1) (K : S1 → Prop) : fS1 x K = K x := by cases x <;> simp only [fS1, fC_eq, fL_eq]
theorem fT_eq : ∀ (cs : List S1) (K : List S1 → Prop), fT cs K = K cs
  | [], _ => rfl
  | c :: cs, K => by simp only [fT, fS1_eq, fT_eq cs]
theorem fV_eq (x : SV) (K : SV → Prop) : fV x K = K x := by cases x <;> simp only [fV, fS1_eq, fT_eq]
theorem fVs_eq : ∀ (cs : List SV) (K : List SV → Prop), fVs cs K = K cs
  | [], _ => rfl
  | c :: cs, K => by simp only [fVs, fV_eq, fVs_eq cs]
theorem fSp_eq : ∀ (cs : List SV) (K : List SV → Prop), fSp cs K = K cs
  | [], _ => rfl
  | c :: cs, K => by simp only [fSp, fSp_eq cs]
theorem fSi_eq : ∀ (cs : List Int) (K : List Int → Prop), fSi cs K = K cs
  | [], _ => rfl
  | c :: cs, K => by simp only [fSi, fSi_eq cs]
theorem fOL_eq (l : OL) (K : OL → Prop) : fOL l K = K l := by cases l <;> simp only [fOL, fKd_eq]
theorem fBk_eq (b : Blk) (K : Blk → Prop) : fBk b K = K b := by cases b <;> simp only [fBk, fN_eq, fL_eq, fKd_eq, fSi_eq, fOL_eq]
theorem fBO_eq (b : Option Blk) (K : Option Blk → Prop) : fBO b K = K b := by cases b <;> simp only [fBO, fBk_eq]
theorem fBs_eq : ∀ (cs : List Blk) (K : List Blk → Prop), fBs cs K = K cs
  | [], _ => rfl
  | c :: cs, K => by simp only [fBs, fBk_eq, fBs_eq cs]
theorem fBOs_eq : ∀ (cs : List (Option Blk)) (K : List (Option Blk) → Prop), fBOs cs K = K cs
  | [], _ => rfl
  | c :: cs, K => by simp only [fBOs, fBO_eq, fBOs_eq cs]
theorem fNs_eq : ∀ (cs : List Nat) (K : List Nat → Prop), fNs cs K = K cs
  | [], _ => rfl
  | c :: cs, K => by simp only [fNs, fN_eq, fNs_eq cs]
def updK : (Nat → Option Blk) → List Nat → List (Option Blk) → ((Nat → Option Blk) → Prop) → Prop
  | h, n :: ns, b :: bs, K => updK (upd h n b) ns bs K
  | h, _, _, K => K h
theorem updK_eq : ∀ (ns : List Nat) (bs : List (Option Blk)) (h : Nat → Option Blk) (K : (Nat → Option Blk) → Prop), updK h ns bs K = K (updL h ns bs)
  | [], _, _, _ => rfl
  | n :: ns, [], _, _ => rfl
  | n :: ns, b :: bs, h, K => by simp only [updK, updL, updK_eq ns bs]
def someL : List Blk → List (Option Blk)
  | [] => []
  | b :: bs => some b :: someL bs
theorem someL_eq : ∀ bs : List Blk, someL bs = bs.map some
  | [] => rfl
  | b :: bs => by simp only [someL, List.map_cons, someL_eq bs]
def St.applyK (s : St) (dst : Option Nat) (base : Nat) (wr : List Nat) (r : Res) (K : St → Prop) : Prop :=
  fV r.v fun v => fSp (putS s.slots dst v) fun sl => fNs wr fun wr => fBOs r.ws fun ws => fBs r.ns fun ns =>
    updK s.heap wr ws fun h => fNs (freshN base) fun fr => updK h fr (someL ns) fun h => K ⟨sl, h, s.next⟩
theorem St.applyK_eq (s : St) (dst : Option Nat) (base : Nat) (wr : List Nat) (r : Res) (K : St → Prop) : s.applyK dst base wr r K = K (s.apply dst base wr r) := by
  simp only [St.applyK, fV_eq, fSp_eq, fNs_eq, fBOs_eq, fBs_eq, updK_eq, someL_eq]
  rfl
def only (names : List Nat) (h : Nat → Option Blk) : Nat → Option Blk := fun n => if names.contains n then h n else none
/-- the blocks of some names, written out -/
def fH (h : Nat → Option Blk) : List Nat → ((Nat → Option Blk) → Prop) → Prop
  | [], K => K fun _ => none
  | n :: ns, K => fN n fun n => fBO (h n) fun b => fH h ns fun g => K (upd g n b)
theorem fH_eq (h : Nat → Option Blk) : ∀ (ns : List Nat) (K : (Nat → Option Blk) → Prop), fH h ns K = K (only ns h)
  | [], K => by
    simp only [fH]
    congr 1
  | n :: ns, K => by
    simp only [fH, fN_eq, fBO_eq, fH_eq h ns]
    congr 1
    funext m
    by_cases hm : m = n
    · subst hm; simp [upd, only]
    · simp [upd, only, hm]
end Go.Proofs.Ytplpmnippkkkkaa.Sx
