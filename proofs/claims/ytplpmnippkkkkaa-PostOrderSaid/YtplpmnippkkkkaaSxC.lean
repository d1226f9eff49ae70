/- Operations on numbers, Booleans, strings, as outcomes; that they tell what the model does. No Go text in sight. -/
import Derived.Test.YtplpmnippkkkkaaSxB
import Derived.Laws.BitsAllLaws
namespace Go.Proofs.Ytplpmnippkkkkaa.Sx
open Go
set_option linter.unusedVariables false
set_option linter.unusedSimpArgs false

def SV.int? : SV → Option (IntKind × Int × Bool)
  | .s (.c (.num k n)) => some (k, n, true)
  | .s (.c (.int k n)) => some (k, n, false)
  | _ => none
def SV.bool? : SV → Option (Bool × Bool)
  | .s (.c (.tru b)) => some (b, true)
  | .s (.c (.boo b)) => some (b, false)
  | _ => none
def SV.str? : SV → Option ByteArray
  | .s (.c (.str z)) => some z
  | _ => none
/-- of a pointer: is it one? -/
def SV.ptr? : SV → Option Bool
  | .s (.c .nil) => some false
  | .s (.c (.ptr _ _ _ _)) => some true
  | _ => none
def SV.agg? : SV → Option (List SC)
  | .s (.a cs) => some cs
  | _ => none
section
variable {μ : Mu} {x : SV} {v : Value}
theorem SV.int_ok {k : IntKind} {n : Int} {c : Bool} (h : x.int? = some (k, n, c)) (hx : x.ok μ v) : v = .int k n := by
  unfold SV.int? at h
  split at h <;> simp at h
  · obtain ⟨rfl, rfl, _⟩ := h; exact hx
  · obtain ⟨rfl, rfl, _⟩ := h; exact hx
theorem SV.bool_ok {b c : Bool} (h : x.bool? = some (b, c)) (hx : x.ok μ v) : v = .bool b := by
  unfold SV.bool? at h
  split at h <;> simp at h
  · obtain ⟨rfl, _⟩ := h; exact hx
  · obtain ⟨rfl, _⟩ := h; exact hx
theorem SV.str_ok {s : ByteArray} (h : x.str? = some s) (hx : x.ok μ v) : v = .string s := by
  unfold SV.str? at h
  split at h <;> simp at h
  subst h
  exact hx
theorem SV.agg_ok {cs : List SC} (h : x.agg? = some cs) (hx : x.ok μ v) : ∃ vs : List Value, v = .agg vs.toArray ∧ All2 (SC.ok μ) cs vs := by
  unfold SV.agg? at h
  split at h <;> simp at h
  subst h
  exact hx
theorem SV.ptr_ok {b : Bool} (h : x.ptr? = some b) (hx : x.ok μ v) : if b then ∃ a, v = .pointer (some a) else v = .pointer none := by
  unfold SV.ptr? at h
  split at h <;> simp at h
  · subst h; exact hx
  · subst h; obtain ⟨l, _, hv⟩ := hx; exact ⟨_, hv⟩
end

def one (c : SC) : SV := .s (.c c)
theorem okT {μ : Mu} {r : Bool} (h : r = true) : (one (.tru true)).ok μ (.bool r) := by subst h; rfl
theorem okF {μ : Mu} {r : Bool} (h : r = false) : (one (.tru false)).ok μ (.bool r) := by subst h; rfl
def oT : Out SV := .ret (one (.tru true))
def oF : Out SV := .ret (one (.tru false))
def mkI (k : IntKind) (c : Bool) (n : Int) : Out SV := if c then .ret (one (.num k n)) else .eqn n fun x => .ret (one (.int k x))
theorem mkI_ok {μ : Mu} {K : SV → Prop} {k : IntKind} {c : Bool} {n : Int} (h : (mkI k c n).wp K) : ∃ sv, K sv ∧ sv.ok μ (.int k n) := by
  cases c
  · exact ⟨_, h n rfl, rfl⟩
  · exact ⟨_, h, rfl⟩

def arith (op : BinOp) (k : IntKind) (a b : Int) : Option Int :=
  match op with
  | .add => some (k.wrap (a + b))
  | .sub => some (k.wrap (a - b))
  | .mul => some (k.wrap (a * b))
  | .and => some (bits .and k a b)
  | .or => some (bits .or k a b)
  | .xor => some (bits .xor k a b)
  | .andNot => some (bits .andNot k a b)
  | _ => none
def cmpB (op : BinOp) (a b : Int) : Option Bool :=
  match op with
  | .lss => some (decide (a < b))
  | .leq => some (decide (a ≤ b))
  | .gtr => some (decide (b < a))
  | .geq => some (decide (b ≤ a))
  | .eql => some (a == b)
  | .neq => some (a != b)
  | _ => none
def cmpO (op : BinOp) (a b : Int) : Option (Out SV) :=
  match op with
  | .lss => some (.br (a < b) oT oF)
  | .leq => some (.br (a ≤ b) oT oF)
  | .gtr => some (.br (b < a) oT oF)
  | .geq => some (.br (b ≤ a) oT oF)
  | .eql => some (.br (a = b) oT oF)
  | .neq => some (.br (a = b) oF oT)
  | _ => none
/-- a claim that is reckoned where all is written out -/
def need (c : Bool) (p : Prop) [Decidable p] (o : Out SV) : Out SV := if c then (if p then o else .fail) else .ast p o
theorem need_ok {K : SV → Prop} {c : Bool} {p : Prop} [Decidable p] {o : Out SV} (h : (need c p o).wp K) : p ∧ o.wp K := by
  cases c
  · exact ⟨h.1.h, h.2⟩
  · simp only [need, if_true] at h
    split at h
    · exact ⟨by assumption, h⟩
    · exact h.elim
def intOut (op : BinOp) (k k' : IntKind) (a b : Int) (ca cb : Bool) : Out SV :=
  match op with
  | .shl => need cb (0 ≤ b) (mkI k (ca && cb) (k.wrap (a * 2 ^ min b.toNat k.bits)))
  | .shr => need cb (0 ≤ b) (mkI k (ca && cb) (a / 2 ^ min b.toNat k.bits))
  | .quo => if k = k' then need cb (b ≠ 0) (mkI k (ca && cb) (k.wrap (a.tdiv b))) else .fail
  | .rem => if k = k' then need cb (b ≠ 0) (mkI k (ca && cb) (a.tmod b)) else .fail
  | op => if k = k' then
      match arith op k a b with
      | some n => mkI k (ca && cb) n
      | none => if ca && cb then (match cmpB op a b with | some r => .ret (one (.tru r)) | none => .fail) else (match cmpO op a b with | some o => o | none => .fail)
    else .fail

theorem cmp_ok {μ : Mu} {K : SV → Prop} {op : BinOp} {a b : Int} {o : Out SV} (ho : cmpO op a b = some o) (h : o.wp K) : ∃ r sv, cmpB op a b = some r ∧ K sv ∧ sv.ok μ (.bool r) := by
  cases op <;> simp [cmpO] at ho <;> subst ho <;> obtain ⟨h1, h2⟩ := h
  · by_cases c : a = b
    · exact ⟨_, _, rfl, h1 c, okT (by simp [c])⟩
    · exact ⟨_, _, rfl, h2 c, okF (by simp [c])⟩
  · by_cases c : a = b
    · exact ⟨_, _, rfl, h1 c, okF (by simp [c])⟩
    · exact ⟨_, _, rfl, h2 c, okT (by simp [c])⟩
  · by_cases c : a < b
    · exact ⟨_, _, rfl, h1 c, okT (by simp [c])⟩
    · exact ⟨_, _, rfl, h2 c, okF (by simpa using c)⟩
  · by_cases c : a ≤ b
    · exact ⟨_, _, rfl, h1 c, okT (by simp [c])⟩
    · exact ⟨_, _, rfl, h2 c, okF (by simpa using c)⟩
  · by_cases c : b < a
    · exact ⟨_, _, rfl, h1 c, okT (by simp [c])⟩
    · exact ⟨_, _, rfl, h2 c, okF (by simpa using c)⟩
  · by_cases c : b ≤ a
    · exact ⟨_, _, rfl, h1 c, okT (by simp [c])⟩
    · exact ⟨_, _, rfl, h2 c, okF (by simpa using c)⟩

theorem bin_arith {P : Program} {w : World} {op : BinOp} {t : TypeId} {k : IntKind} {a b n : Int} (h : arith op k a b = some n) : (binOp op t (.int k a) (.int k b)).run P w = .ok (.int k n) w := by
  cases op <;> simp [arith] at h <;> subst h <;> simp [binOp, Op.intArith] <;> rfl
theorem bin_cmp {P : Program} {w : World} {op : BinOp} {t : TypeId} {k : IntKind} {a b : Int} {r : Bool} (h : cmpB op a b = some r) : (binOp op t (.int k a) (.int k b)).run P w = .ok (.bool r) w := by
  cases op <;> simp [cmpB] at h <;> subst h <;> simp [binOp, Op.intCmp]
theorem fdiv_pow (a : Int) (n : Nat) : a.fdiv (2 ^ n) = a / 2 ^ n := Int.fdiv_eq_ediv_of_nonneg _ (Int.pow_nonneg (by decide))

theorem int_out_ok {μ : Mu} {P : Program} {w : World} {K : SV → Prop} {op : BinOp} {t : TypeId} {k k' : IntKind} {a b : Int} {ca cb : Bool} (h : (intOut op k k' a b ca cb).wp K) :
    ∃ z sv, (binOp op t (.int k a) (.int k' b)).run P w = .ok z w ∧ K sv ∧ sv.ok μ z := by
  have gen : (op ≠ .shl ∧ op ≠ .shr ∧ op ≠ .quo ∧ op ≠ .rem) → intOut op k k' a b ca cb = (if k = k' then
      match arith op k a b with
      | some n => mkI k (ca && cb) n
      | none => if ca && cb then (match cmpB op a b with | some r => .ret (one (.tru r)) | none => .fail) else (match cmpO op a b with | some o => o | none => .fail)
    else .fail) := by
    rintro ⟨h1, h2, h3, h4⟩
    cases op <;> simp_all [intOut]
  by_cases h1 : op = .shl
  · subst h1
    obtain ⟨h0, hk⟩ := need_ok h
    obtain ⟨sv, h2, h3⟩ := mkI_ok (μ := μ) hk
    refine ⟨_, sv, ?_, h2, h3⟩
    have hn : ¬ b < 0 := by omega
    simp [binOp, Op.shift, hn]
  by_cases h2 : op = .shr
  · subst h2
    obtain ⟨h0, hk⟩ := need_ok h
    obtain ⟨sv, h2, h3⟩ := mkI_ok (μ := μ) hk
    refine ⟨_, sv, ?_, h2, h3⟩
    have hn : ¬ b < 0 := by omega
    simp [binOp, Op.shift, hn, fdiv_pow]
  by_cases h3 : op = .quo
  · subst h3
    simp only [intOut] at h
    split at h
    · rename_i hk; subst hk
      obtain ⟨h0, hk⟩ := need_ok h
      obtain ⟨sv, h2, h3⟩ := mkI_ok (μ := μ) hk
      exact ⟨_, sv, by simp [binOp, Op.intDiv, h0], h2, h3⟩
    · exact h.elim
  by_cases h4 : op = .rem
  · subst h4
    simp only [intOut] at h
    split at h
    · rename_i hk; subst hk
      obtain ⟨h0, hk⟩ := need_ok h
      obtain ⟨sv, h2, h3⟩ := mkI_ok (μ := μ) hk
      exact ⟨_, sv, by simp [binOp, Op.intDiv, h0], h2, h3⟩
    · exact h.elim
  rw [gen ⟨h1, h2, h3, h4⟩] at h
  split at h
  · rename_i hk; subst hk
    split at h
    · rename_i n hn
      obtain ⟨sv, h5, h6⟩ := mkI_ok (μ := μ) h
      exact ⟨_, sv, bin_arith hn, h5, h6⟩
    · split at h
      · split at h
        · rename_i r hr
          exact ⟨_, _, bin_cmp hr, h, rfl⟩
        · exact h.elim
      · split at h
        · rename_i o ho
          obtain ⟨r, sv, h5, h6, h7⟩ := cmp_ok (μ := μ) ho h
          exact ⟨_, sv, bin_cmp h5, h6, h7⟩
        · exact h.elim
  · exact h.elim

/-- two Booleans -/
def boolOut (op : BinOp) (a b : Bool) (c : Bool) : Out SV :=
  match op with
  | .eql => if c then .ret (one (.tru (a == b))) else .br (a = b) oT oF
  | .neq => if c then .ret (one (.tru (a != b))) else .br (a = b) oF oT
  | _ => .fail
theorem bool_out_ok {μ : Mu} {P : Program} {w : World} {K : SV → Prop} {op : BinOp} {t : TypeId} {a b c : Bool} (hu : P.underlying t = some .bool) (h : (boolOut op a b c).wp K) :
    ∃ z sv, (binOp op t (.bool a) (.bool b)).run P w = .ok z w ∧ K sv ∧ sv.ok μ z := by
  have hd : ∀ d : Nat, (Op.equalIn (d + 1) t (.bool a) (.bool b)).run P w = .ok (a == b) w := fun d => by simp [Op.equalIn, run_underlying hu]
  have he : (Op.equal t (.bool a) (.bool b)).run P w = .ok (a == b) w := hd 9999
  cases op <;> simp only [boolOut] at h <;> try exact h.elim
  · refine ⟨.bool (a == b), ?_⟩
    have hr : (binOp .eql t (.bool a) (.bool b)).run P w = .ok (.bool (a == b)) w := by simp [binOp, he]
    cases c
    · obtain ⟨h1, h2⟩ := h
      by_cases hc : a = b
      · exact ⟨_, hr, h1 hc, okT (by simp [hc])⟩
      · exact ⟨_, hr, h2 hc, okF (by simp [hc])⟩
    · exact ⟨_, hr, h, rfl⟩
  · refine ⟨.bool (a != b), ?_⟩
    have hr : (binOp .neq t (.bool a) (.bool b)).run P w = .ok (.bool (a != b)) w := by simp [binOp, he, bne]
    cases c
    · obtain ⟨h1, h2⟩ := h
      by_cases hc : a = b
      · exact ⟨_, hr, h1 hc, okF (by simp [hc])⟩
      · exact ⟨_, hr, h2 hc, okT (by simp [hc])⟩
    · exact ⟨_, hr, h, rfl⟩

/-- a pointer against nil -/
def ptrOut (op : BinOp) (a b : Bool) : Out SV :=
  if a && b then .fail else
  match op with
  | .eql => .ret (one (.tru (!a && !b)))
  | .neq => .ret (one (.tru (a || b)))
  | _ => .fail
theorem ptr_out_ok {μ : Mu} {P : Program} {w : World} {K : SV → Prop} {op : BinOp} {t e : TypeId} {a b : Bool} {u v : Value} (hu : P.underlying t = some (.pointer e))
    (ha : if a then ∃ p, u = .pointer (some p) else u = .pointer none) (hb : if b then ∃ p, v = .pointer (some p) else v = .pointer none) (h : (ptrOut op a b).wp K) :
    ∃ z sv, (binOp op t u v).run P w = .ok z w ∧ K sv ∧ sv.ok μ z := by
  have hab : (a && b) = false := by
    cases hx : (a && b)
    · rfl
    · simp [ptrOut, hx] at h; exact h.elim
  have hd : ∀ d : Nat, (Op.equalIn (d + 1) t u v).run P w = .ok (!a && !b) w := fun d => by
    cases a <;> cases b <;> simp at hab ha hb
    · subst ha; subst hb; simp [Op.equalIn, run_underlying hu]
    · obtain ⟨p, rfl⟩ := hb; subst ha; simp [Op.equalIn, run_underlying hu]
    · obtain ⟨p, rfl⟩ := ha; subst hb; simp [Op.equalIn, run_underlying hu]
  have he : (Op.equal t u v).run P w = .ok (!a && !b) w := hd 9999
  have hsh : ∃ p q, u = .pointer p ∧ v = .pointer q := by
    cases a <;> cases b <;> simp at ha hb
    · exact ⟨_, _, ha, hb⟩
    · obtain ⟨p, rfl⟩ := hb; exact ⟨_, _, ha, rfl⟩
    · obtain ⟨p, rfl⟩ := ha; exact ⟨_, _, rfl, hb⟩
    · obtain ⟨p, rfl⟩ := hb; obtain ⟨q, rfl⟩ := ha; exact ⟨_, _, rfl, rfl⟩
  obtain ⟨p, q, rfl, rfl⟩ := hsh
  simp only [ptrOut, hab, Bool.false_eq_true, if_false] at h
  cases op <;> simp only [] at h <;> try exact h.elim
  · exact ⟨.bool (!a && !b), _, by simp [binOp, he], h, rfl⟩
  · exact ⟨.bool (a || b), _, by simp [binOp, he, Bool.not_and], h, rfl⟩

/-- two strings -/
def strOut (op : BinOp) (a b : ByteArray) : Out SV :=
  match op with
  | .eql => .br (a = b) oT oF
  | .neq => .br (a = b) oF oT
  | .add => .eqn (a ++ b) fun x => .ret (one (.str x))
  | _ => .fail

def unOut (op : UnOp) (x : SV) : Out SV :=
  match op with
  | .not => match x.bool? with
    | some (b, true) => .ret (one (.tru (!b)))
    | some (b, false) => .ret (one (.boo (!b)))
    | none => .fail
  | .neg => match x.int? with
    | some (k, n, c) => mkI k c (k.wrap (0 - n))
    | none => .fail
  | .xor => match x.int? with
    | some (k, n, c) => mkI k c (bits .xor k (if k.signed then -1 else k.max) n)
    | none => .fail
  | _ => .fail
theorem un_ok {μ : Mu} {P : Program} {w : World} {K : SV → Prop} {op : UnOp} {x : SV} {u : Value} (hx : x.ok μ u) (h : (unOut op x).wp K) :
    ∃ z sv, (Op.unary op u).run P w = .ok z w ∧ K sv ∧ sv.ok μ z := by
  cases op <;> simp only [unOut] at h <;> try exact h.elim
  · split at h
    · rename_i k n c hi
      have := SV.int_ok hi hx
      subst this
      obtain ⟨sv, h1, h2⟩ := mkI_ok (μ := μ) h
      exact ⟨_, sv, by simp [Op.unary, Op.intArith], h1, h2⟩
    · exact h.elim
  · split at h
    · rename_i k n c hi
      have := SV.int_ok hi hx
      subst this
      obtain ⟨sv, h1, h2⟩ := mkI_ok (μ := μ) h
      exact ⟨_, sv, by simp only [Op.unary, intBits_xor]; rfl, h1, h2⟩
    · exact h.elim
  · split at h
    · rename_i b hb
      have := SV.bool_ok hb hx
      subst this
      exact ⟨_, _, by simp [Op.unary], h, rfl⟩
    · rename_i b hb
      have := SV.bool_ok hb hx
      subst this
      exact ⟨_, _, by simp [Op.unary], h, rfl⟩
    · exact h.elim

/-- a conversion between integers -/
def convOut (P : Program) (src dst : TypeId) (x : SV) : Out SV :=
  match x.int?, P.underlying src, P.underlying dst with
  | some (_, n, c), some _, some (.int k) => mkI k c (k.wrap n)
  | _, _, _ => .fail
theorem conv_ok {μ : Mu} {P : Program} {w : World} {K : SV → Prop} {src dst : TypeId} {x : SV} {u : Value} (hx : x.ok μ u) (h : (convOut P src dst x).wp K) :
    ∃ z sv, (convert src dst u).run P w = .ok z w ∧ K sv ∧ sv.ok μ z := by
  unfold convOut at h
  split at h
  · rename_i k n c d k' hi hs hd
    have := SV.int_ok hi hx
    subst this
    obtain ⟨sv, h1, h2⟩ := mkI_ok (μ := μ) h
    exact ⟨_, sv, by simp [convert, run_underlying hs, run_underlying hd, Conv.intToInt], h1, h2⟩
  · exact h.elim
end Go.Proofs.Ytplpmnippkkkkaa.Sx
