/- A part of the proof: lemmas. No condition of its own. -/
import Derived.Laws.BitsAllLaws
import Derived.Laws.CopyRow
import Derived.Laws.Cells
import Derived.Test.YtglcgbhhkjebbaaGreatK01
set_option linter.unusedVariables false
set_option linter.unusedSimpArgs false
namespace Zx
noncomputable section
open Go
def SV.int? : SV -> Option (IntKind × Int × Bool)
 | .s (.c (.num k n))=>some (k,n,true)
 | .s (.c (.int k n))=>some (k,n,false)
 | _=>none
def SV.bool? : SV -> Option (Bool × Bool)
 | .s (.c (.tru b))=>some (b,true)
 | .s (.c (.boo b))=>some (b,false)
 | _=>none
def SV.str? : SV -> Option ByteArray
 | .s (.c (.str z))=>some z
 | _=>none
def SV.ptr? : SV -> Option Bool
 | .s (.c .nil)=>some false
 | .s (.c (.ptr _ _ _ _))=>some true
 | .s (.c (.zp _))=>some true
 | .s (.c (.zpa _ _ _))=>some true
 | _=>none
def SV.agg? : SV -> Option (List SC)
 | .s (.a cs)=>some cs
 | _=>none
section
variable {μ : Mu} {x : SV} {v : Value}
theorem SV.int_ok {k : IntKind} {n : Int} {c : Bool} (h : x.int? = some (k,n,c)) (hx : x.ok μ v) : v = .int k n:=by
 unfold SV.int? at h
 split at h <;> simp at h
 ·obtain ⟨rfl,rfl,_⟩:=h;exact hx
 ·obtain ⟨rfl,rfl,_⟩:=h;exact hx
theorem SV.bool_ok {b c : Bool} (h : x.bool? = some (b,c)) (hx : x.ok μ v) : v = .bool b:=by
 unfold SV.bool? at h
 split at h <;> simp at h
 ·obtain ⟨rfl,_⟩:=h;exact hx
 ·obtain ⟨rfl,_⟩:=h;exact hx
theorem SV.str_ok {s : ByteArray} (h : x.str? = some s) (hx : x.ok μ v) : v = .string s:=by
 unfold SV.str? at h
 split at h <;> simp at h
 subst h
 exact hx
theorem SV.agg_ok {cs : List SC} (h : x.agg? = some cs) (hx : x.ok μ v) : ∃ vs : List Value,v = .agg vs.toArray /\ All2 (SC.ok μ) cs vs:=by
 unfold SV.agg? at h
 split at h <;> simp at h
 subst h
 exact hx
theorem SV.ptr_ok {b : Bool} (h : x.ptr? = some b) (hx : x.ok μ v) : if b then ∃ a,v = .pointer (some a) else v = .pointer none:=by
 unfold SV.ptr? at h
 split at h <;> simp at h
 ·subst h;exact hx
 ·subst h;obtain ⟨l,_,hv⟩:=hx;exact ⟨_,hv⟩
 ·subst h;obtain ⟨b,o,hv,_⟩:=hx;exact ⟨_,hv⟩
 ·subst h;exact ⟨_,hx.1⟩
end
def one (c : SC) : SV:=.s (.c c)
theorem okT {μ : Mu} {r : Bool} (h : r = true) : (one (.tru true)).ok μ (.bool r):=by subst h;rfl
theorem okF {μ : Mu} {r : Bool} (h : r = false) : (one (.tru false)).ok μ (.bool r):=by subst h;rfl
def oT : Out SV:=.ret (one (.tru true))
def oF : Out SV:=.ret (one (.tru false))
def mkI (k : IntKind) (c : Bool) (n : Int) : Out SV:=if c then .ret (one (.num k n)) else .eqn n fun x=>.ret (one (.int k x))
theorem mkI_ok {μ : Mu} {K : SV -> Prop} {k : IntKind} {c : Bool} {n : Int} (h : (mkI k c n).wp K) : ∃ sv,K sv /\ sv.ok μ (.int k n):=by
 cases c
 ·exact ⟨_,h n rfl,rfl⟩
 ·exact ⟨_,h,rfl⟩
def arith (op : BinOp) (k : IntKind) (a b : Int) : Option Int:=
 match op with
 | .add=>some (k.wrap (a + b))
 | .sub=>some (k.wrap (a - b))
 | .mul=>some (k.wrap (a * b))
 | .and=>some (bits .and k a b)
 | .or=>some (bits .or k a b)
 | .xor=>some (bits .xor k a b)
 | .andNot=>some (bits .andNot k a b)
 | _=>none
def cmpB (op : BinOp) (a b : Int) : Option Bool:=
 match op with
 | .lss=>some (decide (a < b))
 | .leq=>some (decide (a <= b))
 | .gtr=>some (decide (b < a))
 | .geq=>some (decide (b <= a))
 | .eql=>some (a == b)
 | .neq=>some (a != b)
 | _=>none
def cmpO (op : BinOp) (a b : Int) : Option (Out SV):=
 match op with
 | .lss=>some (.br (a < b) oT oF)
 | .leq=>some (.br (a <= b) oT oF)
 | .gtr=>some (.br (b < a) oT oF)
 | .geq=>some (.br (b <= a) oT oF)
 | .eql=>some (.br (a = b) oT oF)
 | .neq=>some (.br (a = b) oF oT)
 | _=>none
def need (c : Bool) (p : Prop) [Decidable p] (o : Out SV) : Out SV:=if c then (if p then o else .fail) else .ast p o
theorem need_ok {K : SV -> Prop} {c : Bool} {p : Prop} [Decidable p] {o : Out SV} (h : (need c p o).wp K) : p /\ o.wp K:=by
 cases c
 ·exact ⟨h.1.h,h.2⟩
 ·simp only [need,if_true] at h
  split at h
  ·exact ⟨by assumption,h⟩
  ·exact h.elim
def intOut (op : BinOp) (k k' : IntKind) (a b : Int) (ca cb : Bool) : Out SV:=
 match op with
 | .shl=>need cb (0 <= b) (mkI k (ca && cb) (k.wrap (a * 2 ^ min b.toNat k.bits)))
 | .shr=>need cb (0 <= b) (mkI k (ca && cb) (a / 2 ^ min b.toNat k.bits))
 | .quo=>if k = k' then need cb (b ≠ 0) (mkI k (ca && cb) (k.wrap (a.tdiv b))) else .fail
 | .rem=>if k = k' then need cb (b ≠ 0) (mkI k (ca && cb) (a.tmod b)) else .fail
 | op=>if k = k' then
   match arith op k a b with
   | some n=>mkI k (ca && cb) n
   | none=>if ca && cb then (match cmpB op a b with | some r=>.ret (one (.tru r)) | none=>.fail) else (match cmpO op a b with | some o=>o | none=>.fail)
  else .fail
theorem cmp_ok {μ : Mu} {K : SV -> Prop} {op : BinOp} {a b : Int} {o : Out SV} (ho : cmpO op a b = some o) (h : o.wp K) : ∃ r sv,cmpB op a b = some r /\ K sv /\ sv.ok μ (.bool r):=by
 cases op <;> simp [cmpO] at ho <;> subst ho <;> obtain ⟨h1,h2⟩:=h
 ·by_cases c : a = b
  ·exact ⟨_,_,rfl,h1 c,okT (by simp [c])⟩
  ·exact ⟨_,_,rfl,h2 c,okF (by simp [c])⟩
 ·by_cases c : a = b
  ·exact ⟨_,_,rfl,h1 c,okF (by simp [c])⟩
  ·exact ⟨_,_,rfl,h2 c,okT (by simp [c])⟩
 ·by_cases c : a < b
  ·exact ⟨_,_,rfl,h1 c,okT (by simp [c])⟩
  ·exact ⟨_,_,rfl,h2 c,okF (by simpa using c)⟩
 ·by_cases c : a <= b
  ·exact ⟨_,_,rfl,h1 c,okT (by simp [c])⟩
  ·exact ⟨_,_,rfl,h2 c,okF (by simpa using c)⟩
 ·by_cases c : b < a
  ·exact ⟨_,_,rfl,h1 c,okT (by simp [c])⟩
  ·exact ⟨_,_,rfl,h2 c,okF (by simpa using c)⟩
 ·by_cases c : b <= a
  ·exact ⟨_,_,rfl,h1 c,okT (by simp [c])⟩
  ·exact ⟨_,_,rfl,h2 c,okF (by simpa using c)⟩
theorem bin_arith {P : Program} {w : World} {op : BinOp} {t : TypeId} {k : IntKind} {a b n : Int} (h : arith op k a b = some n) : (binOp op t (.int k a) (.int k b)).run P w = .ok (.int k n) w:=by
 cases op <;> simp [arith] at h <;> subst h <;> simp [binOp,Op.intArith] <;> rfl
theorem bin_cmp {P : Program} {w : World} {op : BinOp} {t : TypeId} {k : IntKind} {a b : Int} {r : Bool} (h : cmpB op a b = some r) : (binOp op t (.int k a) (.int k b)).run P w = .ok (.bool r) w:=by
 cases op <;> simp [cmpB] at h <;> subst h <;> simp [binOp,Op.intCmp]
theorem fdiv_pow (a : Int) (n : Nat) : a.fdiv (2 ^ n) = a / 2 ^ n:=Int.fdiv_eq_ediv_of_nonneg _ (Int.pow_nonneg (by decide))
theorem int_out_ok {μ : Mu} {P : Program} {w : World} {K : SV -> Prop} {op : BinOp} {t : TypeId} {k k' : IntKind} {a b : Int} {ca cb : Bool} (h : (intOut op k k' a b ca cb).wp K) :
  ∃ z sv,(binOp op t (.int k a) (.int k' b)).run P w = .ok z w /\ K sv /\ sv.ok μ z:=by
 have gen : (op ≠ .shl /\ op ≠ .shr /\ op ≠ .quo /\ op ≠ .rem) -> intOut op k k' a b ca cb = (if k = k' then
   match arith op k a b with
   | some n=>mkI k (ca && cb) n
   | none=>if ca && cb then (match cmpB op a b with | some r=>.ret (one (.tru r)) | none=>.fail) else (match cmpO op a b with | some o=>o | none=>.fail)
  else .fail):=by
  rintro ⟨h1,h2,h3,h4⟩
  cases op <;> simp_all [intOut]
 by_cases h1 : op = .shl
 ·subst h1
  obtain ⟨h0,hk⟩:=need_ok h
  obtain ⟨sv,h2,h3⟩:=mkI_ok (μ:=μ) hk
  refine ⟨_,sv, ?_,h2,h3⟩
  have hn : ¬ b < 0:=by omega
  simp [binOp,Op.shift,hn]
 by_cases h2 : op = .shr
 ·subst h2
  obtain ⟨h0,hk⟩:=need_ok h
  obtain ⟨sv,h2,h3⟩:=mkI_ok (μ:=μ) hk
  refine ⟨_,sv, ?_,h2,h3⟩
  have hn : ¬ b < 0:=by omega
  simp [binOp,Op.shift,hn,fdiv_pow]
 by_cases h3 : op = .quo
 ·subst h3
  simp only [intOut] at h
  split at h
  ·rename_i hk;subst hk
   obtain ⟨h0,hk⟩:=need_ok h
   obtain ⟨sv,h2,h3⟩:=mkI_ok (μ:=μ) hk
   exact ⟨_,sv,by simp [binOp,Op.intDiv,h0],h2,h3⟩
  ·exact h.elim
 by_cases h4 : op = .rem
 ·subst h4
  simp only [intOut] at h
  split at h
  ·rename_i hk;subst hk
   obtain ⟨h0,hk⟩:=need_ok h
   obtain ⟨sv,h2,h3⟩:=mkI_ok (μ:=μ) hk
   exact ⟨_,sv,by simp [binOp,Op.intDiv,h0],h2,h3⟩
  ·exact h.elim
 rw [gen ⟨h1,h2,h3,h4⟩] at h
 split at h
 ·rename_i hk;subst hk
  split at h
  ·rename_i n hn
   obtain ⟨sv,h5,h6⟩:=mkI_ok (μ:=μ) h
   exact ⟨_,sv,bin_arith hn,h5,h6⟩
  ·split at h
   ·split at h
    ·rename_i r hr
     exact ⟨_,_,bin_cmp hr,h,rfl⟩
    ·exact h.elim
   ·split at h
    ·rename_i o ho
     obtain ⟨r,sv,h5,h6,h7⟩:=cmp_ok (μ:=μ) ho h
     exact ⟨_,sv,bin_cmp h5,h6,h7⟩
    ·exact h.elim
 ·exact h.elim
def boolOut (op : BinOp) (a b : Bool) (c : Bool) : Out SV:=
 match op with
 | .eql=>if c then .ret (one (.tru (a == b))) else .br (a = b) oT oF
 | .neq=>if c then .ret (one (.tru (a != b))) else .br (a = b) oF oT
 | _=>.fail
theorem bool_out_ok {μ : Mu} {P : Program} {w : World} {K : SV -> Prop} {op : BinOp} {t : TypeId} {a b c : Bool} (hu : P.underlying t = some .bool) (h : (boolOut op a b c).wp K) :
  ∃ z sv,(binOp op t (.bool a) (.bool b)).run P w = .ok z w /\ K sv /\ sv.ok μ z:=by
 have hd : ∀ d : Nat,(Op.equalIn (d + 1) t (.bool a) (.bool b)).run P w = .ok (a == b) w:=fun d=>by simp [Op.equalIn,run_underlying hu]
 have he : (Op.equal t (.bool a) (.bool b)).run P w = .ok (a == b) w:=hd 9999
 cases op <;> simp only [boolOut] at h <;> try exact h.elim
 ·refine ⟨.bool (a == b), ?_⟩
  have hr : (binOp .eql t (.bool a) (.bool b)).run P w = .ok (.bool (a == b)) w:=by simp [binOp,he]
  cases c
  ·obtain ⟨h1,h2⟩:=h
   by_cases hc : a = b
   ·exact ⟨_,hr,h1 hc,okT (by simp [hc])⟩
   ·exact ⟨_,hr,h2 hc,okF (by simp [hc])⟩
  ·exact ⟨_,hr,h,rfl⟩
 ·refine ⟨.bool (a != b), ?_⟩
  have hr : (binOp .neq t (.bool a) (.bool b)).run P w = .ok (.bool (a != b)) w:=by simp [binOp,he,bne]
  cases c
  ·obtain ⟨h1,h2⟩:=h
   by_cases hc : a = b
   ·exact ⟨_,hr,h1 hc,okF (by simp [hc])⟩
   ·exact ⟨_,hr,h2 hc,okT (by simp [hc])⟩
  ·exact ⟨_,hr,h,rfl⟩
def ptrOut (op : BinOp) (a b : Bool) : Out SV:=
 if a && b then .fail else
 match op with
 | .eql=>.ret (one (.tru (!a && !b)))
 | .neq=>.ret (one (.tru (a || b)))
 | _=>.fail
theorem ptr_out_ok {μ : Mu} {P : Program} {w : World} {K : SV -> Prop} {op : BinOp} {t e : TypeId} {a b : Bool} {u v : Value} (hu : P.underlying t = some (.pointer e))
  (ha : if a then ∃ p,u = .pointer (some p) else u = .pointer none) (hb : if b then ∃ p,v = .pointer (some p) else v = .pointer none) (h : (ptrOut op a b).wp K) :
  ∃ z sv,(binOp op t u v).run P w = .ok z w /\ K sv /\ sv.ok μ z:=by
 have hab : (a && b) = false:=by
  cases hx : (a && b)
  ·rfl
  ·simp [ptrOut,hx] at h;exact h.elim
 have hd : ∀ d : Nat,(Op.equalIn (d + 1) t u v).run P w = .ok (!a && !b) w:=fun d=>by
  cases a <;> cases b <;> simp at hab ha hb
  ·subst ha;subst hb;simp [Op.equalIn,run_underlying hu]
  ·obtain ⟨p,rfl⟩:=hb;subst ha;simp [Op.equalIn,run_underlying hu]
  ·obtain ⟨p,rfl⟩:=ha;subst hb;simp [Op.equalIn,run_underlying hu]
 have he : (Op.equal t u v).run P w = .ok (!a && !b) w:=hd 9999
 have hsh : ∃ p q,u = .pointer p /\ v = .pointer q:=by
  cases a <;> cases b <;> simp at ha hb
  ·exact ⟨_,_,ha,hb⟩
  ·obtain ⟨p,rfl⟩:=hb;exact ⟨_,_,ha,rfl⟩
  ·obtain ⟨p,rfl⟩:=ha;exact ⟨_,_,rfl,hb⟩
  ·obtain ⟨p,rfl⟩:=hb;obtain ⟨q,rfl⟩:=ha;exact ⟨_,_,rfl,rfl⟩
 obtain ⟨p,q,rfl,rfl⟩:=hsh
 simp only [ptrOut,hab,Bool.false_eq_true,if_false] at h
 cases op <;> simp only [] at h <;> try exact h.elim
 ·exact ⟨.bool (!a && !b),_,by simp [binOp,he],h,rfl⟩
 ·exact ⟨.bool (a || b),_,by simp [binOp,he,Bool.not_and],h,rfl⟩
def unOut (op : UnOp) (x : SV) : Out SV:=
 match op with
 | .not=>match x.bool? with
  | some (b,true)=>.ret (one (.tru (!b)))
  | some (b,false)=>.ret (one (.boo (!b)))
  | none=>.fail
 | .neg=>match x.int? with
  | some (k,n,c)=>mkI k c (k.wrap (0 - n))
  | none=>.fail
 | .xor=>match x.int? with
  | some (k,n,c)=>mkI k c (bits .xor k (if k.signed then -1 else k.max) n)
  | none=>.fail
 | _=>.fail
theorem un_ok {μ : Mu} {P : Program} {w : World} {K : SV -> Prop} {op : UnOp} {x : SV} {u : Value} (hx : x.ok μ u) (h : (unOut op x).wp K) :
  ∃ z sv,(Op.unary op u).run P w = .ok z w /\ K sv /\ sv.ok μ z:=by
 cases op <;> simp only [unOut] at h <;> try exact h.elim
 ·split at h
  ·rename_i k n c hi
   have:=SV.int_ok hi hx
   subst this
   obtain ⟨sv,h1,h2⟩:=mkI_ok (μ:=μ) h
   exact ⟨_,sv,by simp [Op.unary,Op.intArith],h1,h2⟩
  ·exact h.elim
 ·split at h
  ·rename_i k n c hi
   have:=SV.int_ok hi hx
   subst this
   obtain ⟨sv,h1,h2⟩:=mkI_ok (μ:=μ) h
   exact ⟨_,sv,by simp only [Op.unary,intBits_xor];rfl,h1,h2⟩
  ·exact h.elim
 ·split at h
  ·rename_i b hb
   have:=SV.bool_ok hb hx
   subst this
   exact ⟨_,_,by simp [Op.unary],h,rfl⟩
  ·rename_i b hb
   have:=SV.bool_ok hb hx
   subst this
   exact ⟨_,_,by simp [Op.unary],h,rfl⟩
  ·exact h.elim
def convOut (P : Program) (src dst : TypeId) (x : SV) : Out SV:=
 match x.int?,P.underlying src,P.underlying dst with
 | some (_,n,c),some _,some (.int k)=>mkI k c (k.wrap n)
 | _,_,_=>.fail
theorem conv_ok {μ : Mu} {P : Program} {w : World} {K : SV -> Prop} {src dst : TypeId} {x : SV} {u : Value} (hx : x.ok μ u) (h : (convOut P src dst x).wp K) :
  ∃ z sv,(convert src dst u).run P w = .ok z w /\ K sv /\ sv.ok μ z:=by
 unfold convOut at h
 split at h
 ·rename_i k n c d k' hi hs hd
  have:=SV.int_ok hi hx
  subst this
  obtain ⟨sv,h1,h2⟩:=mkI_ok (μ:=μ) h
  exact ⟨_,sv,by simp [convert,run_underlying hs,run_underlying hd,Conv.intToInt],h1,h2⟩
 ·exact h.elim
end
end Zx
namespace Zx
noncomputable section
open Go
structure Req where
 rd : List Nat
 wr : List Nat
 act : List (Option Blk) -> Out Res
def Req.pure (o : Out SV) : Req:=⟨[],[],fun _=>o.bind fun v=>.ret ⟨v,[],[]⟩⟩
def Req.fail : Req:=⟨[],[],fun _=>.fail⟩
def Req.pre (r : Req) (h : Nat -> Option Blk) (K : Res -> Prop) : Prop:=(r.act ((r.rd ++ r.wr).map h)).wp K
def Snd (P : Program) (μ : Mu) (h : Nat -> Option Blk) (w : World) (base : Nat) (r : Req) (x : Sem Value) : Prop:=
 ∀ K,r.pre h K -> ∃ v w' μ' res,x.run P w = .ok v w' /\ K res /\ Eff0 μ μ' h w base r.wr res v w'
theorem Snd.pure {P : Program} {μ : Mu} {h : Nat -> Option Blk} {w : World} {base : Nat} {o : Out SV} {x : Sem Value}
  (hx : ∀ K : SV -> Prop,o.wp K -> ∃ z sv,x.run P w = .ok z w /\ K sv /\ sv.ok μ z) : Snd P μ h w base (Req.pure o) x:=fun K hk=>by
 obtain ⟨z,sv,h1,h2,h3⟩:=hx _ (Out.wp_bind.1 hk)
 exact ⟨z,w,μ,_,h1,h2,Eff0.pure h3⟩
theorem Snd.fail {P : Program} {μ : Mu} {h : Nat -> Option Blk} {w : World} {base : Nat} {x : Sem Value} : Snd P μ h w base Req.fail x:=fun K hk=>hk.elim
def agD : TypeDesc -> Bool
 | .struct _=>true
 | .array _ _=>true
 | _=>false
theorem run_isAgg {P : Program} {t : TypeId} {d : TypeDesc} (h : P.underlying t = some d) (w : World) : (isAgg t).run P w = .ok (agD d) w:=by
 unfold isAgg
 simp only [Sem.run_bind,run_underlying h,Result.andThen_ok]
 cases d <;> rfl
theorem run_sizeOf' {P : Program} {t : TypeId} {i : TypeInfo} (h : P.info? t = some i) (w : World) : (Go.sizeOf t).run P w = .ok i.size w:=by
 simp [Go.sizeOf,typeInfo,h]
def oAst (p : Option Prop) (o : Out Res) : Out Res:=
 match p with
 | some p=>.ast p o
 | none=>o
def holds (p : Option Prop) : Prop:=
 match p with
 | some p=>p
 | none=>True
theorem oAst_ok {p : Option Prop} {o : Out Res} {K : Res -> Prop} (h : (oAst p o).wp K) : holds p /\ o.wp K:=by
 cases p with
 | none=>exact ⟨trivial,h⟩
 | some p=>exact ⟨h.1.h,h.2⟩
def blkGet (k : Blk) (i e j sz : Nat) : Option (Option Prop × List SC):=
 match k with
 | .cells _ cs=>if e == 0 && decide (j + sz <= cs.length) then some (none,(cs.drop j).take sz) else none
 | .view e' n f=>if e == e' && decide (j + sz <= e) then some (some (i < n),((f i).drop j).take sz) else none
 | .own _ e' n f=>if e == e' && decide (j + sz <= e) then some (some (i < n),((f i).drop j).take sz) else none
 | .ints k L=>if e == 1 && (j == 0 && sz == 1) then some (some (i < L.length),[.int k (L.getD i 0)]) else none
 | .oints k L=>if e == 1 && (j == 0 && sz == 1) then some (some (i < L.length),[.int k (L.getD i 0)]) else none
 | .obj _ _ _=>none
def packV (ag : Bool) (cs : List SC) : Option SV:=
 if ag then some (.s (.a cs)) else
  match cs with
  | [c]=>some (one c)
  | _=>none
theorem getElem?_sub {α : Type} (l : List α) (j sz x : Nat) (h : x < sz) : ((l.drop j).take sz)[x]? = l[j + x]?:=by
 rw [List.getElem?_take_of_lt h,List.getElem?_drop]
theorem blkGet_ok0 {μ : Mu} {w : World} {l : Loc} {k : Blk} {i e j sz : Nat} {p : Option Prop} {cs : List SC} (hni : ∀ q L,k ≠ .ints q L) (hno : ∀ q L,k ≠ .oints q L) (hk : k.ok μ w l) (h : blkGet k i e j sz = some (p,cs)) (hp : holds p) :
  ∃ vs : List Value,vs.length = sz /\ All2 (SC.ok μ) cs vs /\ ∀ (x : Nat) (v : Value),vs[x]? = some v -> w.cell? ⟨l.b,l.off + (i * e + j) + x,none⟩ = some v:=by
 have gen : ∀ (src : List SC) (get : Nat -> Option Value),j + sz <= src.length -> (∀ x c,src[x]? = some c -> ∃ v,get x = some v /\ c.ok μ v) →
   ∃ vs : List Value,vs.length = sz /\ All2 (SC.ok μ) ((src.drop j).take sz) vs /\ ∀ (x : Nat) (v : Value),vs[x]? = some v -> get (j + x) = some v:=by
  intro src get hle hg
  refine ⟨(List.range sz).map fun x=>(get (j + x)).getD undef,by simp, ?_, ?_⟩
  ·refine All2.mk (by simp;omega) fun x c v hc hv=>?_
   have hx : x < sz:=by
    have:=(List.getElem?_eq_some_iff.1 hc).1
    simp at this
    omega
   rw [getElem?_sub _ _ _ _ hx] at hc
   obtain ⟨u,hu,hok⟩:=hg _ _ hc
   simp [hx,hu] at hv
   subst hv
   exact hok
  ·intro x v hv
   have hx : x < sz:=by
    have:=(List.getElem?_eq_some_iff.1 hv).1
    simpa using this
   obtain ⟨u,hu,_⟩:=hg (j + x) _ (List.getElem?_eq_getElem (by omega))
   simp [hx,hu] at hv
   rw [hu,hv]
 cases k with
 | cells t src=>
  obtain ⟨h0,vs,hv,ha⟩:=hk
  simp only [blkGet] at h
  split at h
  ·rename_i hc
   simp at hc
   obtain ⟨rfl,hle⟩:=hc
   simp at h
   obtain ⟨_,rfl⟩:=h
   obtain ⟨us,h1,h2,h3⟩:=gen src (fun x=>w.cell? ⟨l.b,l.off + x,none⟩) hle fun x c hx=>by
    obtain ⟨v,hv',hok⟩:=ha.get x c hx
    exact ⟨v,by simp [World.cell?,hv,h0,hv'],hok⟩
   exact ⟨us,h1,h2,fun x v hx=>by have:=h3 x v hx;simpa [Nat.add_assoc] using this⟩
  ·cases h
 | view e' n f=>
  simp only [blkGet] at h
  split at h
  ·rename_i hc
   simp at hc
   obtain ⟨rfl,hle⟩:=hc
   simp at h
   obtain ⟨rfl,rfl⟩:=h
   obtain ⟨h1,h2⟩:=hk.2 i hp
   obtain ⟨us,g1,g2,g3⟩:=gen (f i) (fun x=>w.cell? ⟨l.b,l.off + (i * e + x),none⟩) (by omega) fun x c hx=>h2 x c hx
   exact ⟨us,g1,g2,fun x v hx=>by have:=g3 x v hx;simpa [Nat.add_assoc] using this⟩
  ·cases h
 | own t e' n f=>
  simp only [blkGet] at h
  split at h
  ·rename_i hc
   simp at hc
   obtain ⟨rfl,hle⟩:=hc
   simp at h
   obtain ⟨rfl,rfl⟩:=h
   obtain ⟨a,c,xs,k1,k2,k3,k4,k5,k6⟩:=hk
   have hin : i < n:=hp
   obtain ⟨h1,h2⟩:=k6 i hin
   obtain ⟨_,cur,hcur,hsz,hat⟩:=k5 (by omega)
   obtain ⟨us,g1,g2,g3⟩:=gen (f i) (fun x=>w.cell? ⟨l.b,l.off + (i * e + x),none⟩) (by omega) fun x c hx=>by
    obtain ⟨v,hv,hok⟩:=h2 x c hx
    refine ⟨v, ?_,hok⟩
    have hx' : x < (f i).length:=(List.getElem?_eq_some_iff.1 hx).1
    have hlt : i * e + x < n * e:=by
     have : (i + 1) * e <= n * e:=Nat.mul_le_mul_right e hin
     rw [Nat.add_mul] at this
     omega
    simp only [World.cell?,hcur]
    simp only [Option.isSome_none,Bool.false_eq_true,if_false]
    rw [hat _ hlt]
    exact hv
   exact ⟨us,g1,g2,fun x v hx=>by have:=g3 x v hx;simpa [Nat.add_assoc] using this⟩
  ·cases h
 | ints k L=>exact (hni k L rfl).elim
 | oints k L=>exact (hno k L rfl).elim
 | obj _ _ _=>simp [blkGet] at h
theorem blkGet_ok {μ : Mu} {w : World} {l : Loc} {k : Blk} {i e j sz : Nat} {p : Option Prop} {cs : List SC} (hk : k.ok μ w l) (h : blkGet k i e j sz = some (p,cs)) (hp : holds p) :
  ∃ vs : List Value,vs.length = sz /\ All2 (SC.ok μ) cs vs /\ ∀ (x : Nat) (v : Value),vs[x]? = some v -> w.cell? ⟨l.b,l.off + (i * e + j) + x,none⟩ = some v:=by
 cases k with
 | ints k L=>
  simp only [blkGet] at h
  split at h
  ·rename_i hc
   simp at hc
   obtain ⟨rfl,rfl,rfl⟩:=hc
   refine blkGet_ok0 (k:=.view 1 L.length (intsF k L)) (fun _ _ h=>by cases h) (fun _ _ h=>by cases h) hk ?_ hp
   rw [← h]
   simp [blkGet,intsF]
  ·cases h
 | oints k L=>
  obtain ⟨t,hk⟩:=hk
  simp only [blkGet] at h
  split at h
  ·rename_i hc
   simp at hc
   obtain ⟨rfl,rfl,rfl⟩:=hc
   refine blkGet_ok0 (k:=.own t 1 L.length (intsF k L)) (fun _ _ h=>by cases h) (fun _ _ h=>by cases h) hk ?_ hp
   rw [← h]
   simp [blkGet,intsF]
  ·cases h
 | cells t cs=>exact blkGet_ok0 (fun _ _ h=>by cases h) (fun _ _ h=>by cases h) hk h hp
 | view e n f=>exact blkGet_ok0 (fun _ _ h=>by cases h) (fun _ _ h=>by cases h) hk h hp
 | own t e n f=>exact blkGet_ok0 (fun _ _ h=>by cases h) (fun _ _ h=>by cases h) hk h hp
 | obj _ _ _=>simp [blkGet] at h
def loadReq (P : Program) (t : TypeId) (x : SV) : Req:=
 match x,P.info? t,P.underlying t with
 | .s (.c (.ptr b i e j)),some inf,some d=>⟨[b],[],fun bl=>
   match bl with
   | [some k]=>match blkGet k i e j inf.size with
    | some (p,cs)=>match packV (agD d) cs with
     | some v=>oAst p (.ret ⟨v,[],[]⟩)
     | none=>.fail
    | none=>.fail
   | _=>.fail⟩
 | _,_,_=>Req.fail
theorem Addr.add_lit' (b o n : Nat) : Addr.add ⟨b,o,none⟩ n = ⟨b,o + n,none⟩:=Go.Addr.add_lit b o n
theorem load_ok {P : Program} {μ : Mu} {h : Nat -> Option Blk} {w : World} {base : Nat} {t : TypeId} {x : SV} {u : Value} (hm : HeapM μ h w) (hx : x.ok μ u) :
  Snd P μ h w base (loadReq P t x) (Instr.loadAt t u):=by
 intro K hk
 unfold loadReq at hk ⊢
 split at hk
 ·rename_i b i e j inf d hi hu
  obtain ⟨l,hl,rfl⟩:=hx
  simp only [Req.pre,List.append_nil,List.map_cons,List.map_nil] at hk
  split at hk
  ·rename_i k hb
   simp at hb
   split at hk
   ·rename_i p cs hg
    split at hk
    ·rename_i v hp
     obtain ⟨hp',hk⟩:=oAst_ok hk
     obtain ⟨l',hl',hok⟩:=hm.ok b k hb
     rw [hl] at hl';cases hl'
     obtain ⟨vs,h1,h2,h3⟩:=blkGet_ok hok hg hp'
     have hc : ∀ (x : Nat) (v : Value),vs[x]? = some v -> w.cell? ((⟨l.b,l.off + (i * e + j),none⟩ : Addr).add x) = some v:=fun x v hv=>by
      rw [Addr.add_lit'];exact h3 x v hv
     unfold packV at hp
     split at hp
     ·rename_i hag
      cases hp
      refine ⟨.agg vs.toArray,w,μ,_, ?_,hk,Eff0.pure ⟨vs,rfl,h2⟩⟩
      have hrun:=run_loadCells_list (P:=P) w ⟨l.b,l.off + (i * e + j),none⟩ vs hc
      rw [h1] at hrun
      simp [Instr.loadAt,Instr.sureAddr,loadVar,run_isAgg hu,hag,run_sizeOf' hi,hrun]
     ·rename_i hag
      split at hp
      ·rename_i c
       cases hp
       match vs,h2 with
       | [v],h2=>
        refine ⟨v,w,μ,_, ?_,hk,Eff0.pure h2.1⟩
        have:=hc 0 v rfl
        rw [Addr.add_lit',Nat.add_zero] at this
        simp [Instr.loadAt,Instr.sureAddr,loadVar,run_isAgg hu,hag,this]
       | [],h2=>exact h2.elim
       | _ :: _ :: _,h2=>exact h2.2.elim
      ·cases hp
    ·exact hk.elim
   ·exact hk.elim
  ·exact hk.elim
 ·exact hk.elim
def constSC : Value -> Option SC
 | .int k n=>some (.num k n)
 | .bool b=>some (.tru b)
 | .string z=>some (.str z)
 | .pointer none=>some .nil
 | .slice none 0 0=>some .nos
 | .func (.func f) ⟨[]⟩ ⟨[]⟩=>some (.fn f)
 | _=>none
theorem constSC_ok {μ : Mu} {v : Value} {c : SC} (h : constSC v = some c) : c.ok μ v:=by
 unfold constSC at h
 split at h <;> simp at h <;> subst h <;> first | rfl | exact ⟨none,rfl⟩
def constL : List Value -> Option (List SC)
 | []=>some []
 | v :: vs=>match constSC v,constL vs with
  | some c,some cs=>some (c :: cs)
  | _,_=>none
theorem constL_ok {μ : Mu} : ∀ {vs : List Value} {cs : List SC},constL vs = some cs -> All2 (SC.ok μ) cs vs
 | [],cs,h=>by cases h;exact trivial
 | v :: vs,cs,h=>by
  simp only [constL] at h
  split at h
  ·rename_i c cs' h1 h2
   cases h
   exact ⟨constSC_ok h1,constL_ok h2⟩
  ·cases h
def constSV : Value -> SV
 | .agg cs=>match constL cs.toList with
  | some l=>.s (.a l)
  | none=>.u
 | v=>match constSC v with
  | some c=>one c
  | none=>.u
theorem constSV_ok (μ : Mu) (v : Value) : (constSV v).ok μ v:=by
 unfold constSV
 split
 ·rename_i cs
  split
  ·rename_i l hl
   exact ⟨cs.toList,by simp,constL_ok hl⟩
  ·trivial
 ·split
  ·rename_i c hc
   exact constSC_ok hc
  ·trivial
theorem SC.one_cell {μ : Mu} {c : SC} {v : Value} (h : c.ok μ v) (hm : ∀ l,(∃ b,μ b = some l) -> l.hd.oneCell' = true \/ True) : v.oneCell' = true:=by
 cases c <;> simp [SC.ok] at h
 case ptr=>obtain ⟨l,_,rfl⟩:=h;rfl
 case sli=>obtain ⟨l,_,a,rfl,_⟩:=h;rfl
 case own=>obtain ⟨l,_,rfl,a,he,_⟩:=h;rw [he];rfl
 case nos=>obtain ⟨a,rfl⟩:=h;rfl
 case zp=>obtain ⟨b,o,rfl,_⟩:=h;rfl
 case zs=>obtain ⟨a,rfl,_⟩:=h;rfl
 case zpa=>obtain ⟨rfl,_⟩:=h;rfl
 case zsa=>obtain ⟨a,rfl,_⟩:=h;rfl
 case clo=>obtain ⟨rfl,_⟩:=h;rfl
 all_goals (subst h;rfl)
theorem SC.one_cell' {μ : Mu} {c : SC} {v : Value} (h : c.ok μ v) : v.oneCell' = true:=SC.one_cell h fun _ _=>.inr trivial
theorem All2.one_cell {μ : Mu} : ∀ {cs : List SC} {vs : List Value},All2 (SC.ok μ) cs vs -> ∀ v ∈ vs,v.oneCell' = true
 | [],[],_,_,h=>by cases h
 | _ :: _,v :: vs,hh,u,h=>by
  rcases List.mem_cons.1 h with rfl | h
  ·exact SC.one_cell' hh.1
  ·exact All2.one_cell hh.2 u h
 | [],_ :: _,hh,_,_=>hh.elim
 | _ :: _,[],hh,_,_=>hh.elim
theorem cells_of_one {v : Value} (h : v.oneCell' = true) : v.cells = #[v]:=by cases v <;> simp_all [Value.oneCell',Value.cells]
def SV.cells? : SV -> Option (List SC)
 | .s (.c c)=>some [c]
 | .s (.a cs)=>some cs
 | _=>none
theorem SV.cells_ok {μ : Mu} {x : SV} {v : Value} {cs : List SC} (h : x.cells? = some cs) (hx : x.ok μ v) : All2 (SC.ok μ) cs v.cells.toList:=by
 unfold SV.cells? at h
 split at h
 ·cases h
  rw [cells_of_one (SC.one_cell' hx)]
  exact ⟨hx,trivial⟩
 ·cases h
  obtain ⟨vs,rfl,ha⟩:=hx
  simpa [Value.cells] using ha
 ·cases h
theorem Eff0.new {μ : Mu} {h : Nat -> Option Blk} {w : World} {base : Nat} {t : TypeId} {cs : List SC} {vs : List Value} (hf : ∀ n ∈ freshN base,μ n = none) (hv : All2 (SC.ok μ) cs vs) :
  ∃ μ',Eff0 μ μ' h w base [] ⟨one (.ptr base 0 0 0),[],[.cells t cs]⟩ (.pointer (some ⟨w.heap.size,0,none⟩)) { w with heap:=w.heap.push (.cells vs.toArray t) }:=by
 have hb : μ base = none:=hf base (by simp [freshN])
 let μ' : Mu:={ μ with loc:=fun n=>if n = base then some ⟨w.heap.size,0,undef⟩ else μ n }
 have hext : Ext μ μ':=by
  refine ⟨fun n l hl=>?_,fun _ _ _ h=>h⟩
  by_cases hn : n = base
  ·subst hn;rw [hb] at hl;cases hl
  ·simp [μ',hn,hl]
 refine ⟨μ',{ ext:=hext,dom:=fun n l hl=>?_,val:=⟨⟨w.heap.size,0,undef⟩,(by simp [μ']),(by simp)⟩,os:=rfl,tape:=rfl,output:=rfl,size:=(by simp),keep:=fun x hx _=>(by simp [Array.getElem?_push,Nat.ne_of_lt hx]),wrs:=List.nodup_nil,wsl:=rfl,nsl:=(by simp),olds:=fun j n b' h=>(by simp at h),news:=fun j b hj=>?_,newsApart:=fun j k b c l m x hne hj hk=>?_ }⟩
 ·by_cases hn : n = base
  ·right;simp [freshN,hn]
  ·left;simpa [μ',hn] using hl
 ·match j,hj with
  | 0,hj=>
   simp at hj
   subst hj
   refine ⟨⟨w.heap.size,0,undef⟩,by simp [μ'],⟨rfl,vs,by simp,hv.imp fun _ _=>SC.ok_ext hext⟩,fun x hx=>?_⟩
   have hx' : w.heap.size = x:=hx
   left;omega
  | j + 1,hj=>simp at hj
 ·match j,k,hj,hk with
  | 0,0,_,_=>exact absurd rfl hne
  | j + 1,_,hj,_=>simp at hj
  | _,k + 1,_,hk=>simp at hk
def newReq (base : Nat) (t : TypeId) (cs : Option (List SC)) : Req:=
 match cs with
 | some cs=>⟨[],[],fun _=>.ret ⟨one (.ptr base 0 0 0),[],[.cells t cs]⟩⟩
 | none=>Req.fail
theorem new_ok {P : Program} {μ : Mu} {h : Nat -> Option Blk} {w : World} {base : Nat} {t : TypeId} {cs : Option (List SC)} {v : Value} (hf : ∀ n ∈ freshN base,μ n = none)
  (hv : ∀ l,cs = some l -> All2 (SC.ok μ) l v.cells.toList) : Snd P μ h w base (newReq base t cs) (do pure (.pointer (some (← newVar t v)))):=by
 intro K hk
 cases cs with
 | none=>exact hk.elim
 | some l=>
  obtain ⟨μ',he⟩:=Eff0.new (h:=h) (w:=w) (t:=t) hf (hv l rfl)
  refine ⟨_,_,μ',_, ?_,hk,he⟩
  simp [newVar,newRow]
def allocReq (P : Program) (base : Nat) (t : TypeId) : Req:=
 match P.info? t with
 | some inf=>match inf.zero with
  | some z=>newReq base t (constL z.cells.toList)
  | none=>Req.fail
 | none=>Req.fail
theorem alloc_ok {P : Program} {μ : Mu} {h : Nat -> Option Blk} {w : World} {base : Nat} {t : TypeId} (hf : ∀ n ∈ freshN base,μ n = none) :
  Snd P μ h w base (allocReq P base t) (Instr.alloc t true (.tuple #[])):=by
 unfold allocReq
 split
 ·rename_i inf hi
  split
  ·rename_i z hz
   intro K hk
   obtain ⟨v,w',μ',res,h1,h2,h3⟩:=new_ok (P:=P) (h:=h) (w:=w) (t:=t) (v:=z) hf (fun l hl=>constL_ok hl) K hk
   refine ⟨v,w',μ',res, ?_,h2,h3⟩
   rw [← h1]
   simp [Instr.alloc,zeroValue,typeInfo,hi,hz]
  ·exact Snd.fail
 ·exact Snd.fail
def setAt (old : List SC) (j : Nat) (cs : List SC) : List SC:=old.take j ++ cs ++ old.drop (j + cs.length)
theorem All2.append {R : SC -> Value -> Prop} : ∀ {a : List SC} {u : List Value} {b : List SC} {v : List Value},All2 R a u -> All2 R b v -> All2 R (a ++ b) (u ++ v)
 | [],[],_,_,_,h=>h
 | _ :: _,_ :: _,_,_,h,k=>⟨h.1,All2.append h.2 k⟩
 | [],_ :: _,_,_,h,_=>h.elim
 | _ :: _,[],_,_,h,_=>h.elim
theorem All2.take {R : SC -> Value -> Prop} : ∀ {a : List SC} {u : List Value} (n : Nat),All2 R a u -> All2 R (a.take n) (u.take n)
 | [],[],n,_=>by simp;trivial
 | _ :: _,_ :: _,0,_=>trivial
 | _ :: _,_ :: _,n + 1,h=>⟨h.1,All2.take n h.2⟩
 | [],_ :: _,_,h=>h.elim
 | _ :: _,[],_,h=>h.elim
theorem All2.drop {R : SC -> Value -> Prop} : ∀ {a : List SC} {u : List Value} (n : Nat),All2 R a u -> All2 R (a.drop n) (u.drop n)
 | [],[],n,_=>by simp;trivial
 | _ :: _,_ :: _,0,h=>h
 | _ :: _,_ :: _,n + 1,h=>All2.drop n h.2
 | [],_ :: _,_,h=>h.elim
 | _ :: _,[],_,h=>h.elim
theorem All2.setAt {R : SC -> Value -> Prop} {old : List SC} {vs : List Value} {cs : List SC} {us : List Value} {j : Nat} (h : All2 R old vs) (k : All2 R cs us) :
  All2 R (setAt old j cs) (vs.take j ++ us ++ vs.drop (j + us.length)):=by
 unfold Zx.setAt
 have:=k.len
 rw [this]
 exact ((h.take j).append k).append (h.drop _)
def intC (k : IntKind) : SC -> Option Int
 | .int k' x=>if k' = k then some x else none
 | .num k' x=>if k' = k then some x else none
 | _=>none
theorem intC_ok {μ : Mu} {k : IntKind} {c : SC} {x : Int} {v : Value} (h : intC k c = some x) (hc : c.ok μ v) : v = .int k x:=by
 unfold intC at h
 split at h
 ·split at h
  ·cases h;rename_i e;subst e;exact hc
  ·cases h
 ·split at h
  ·cases h;rename_i e;subst e;exact hc
  ·cases h
 ·cases h
def blkSet (k : Blk) (i e j : Nat) (cs : List SC) : Option (Option Prop × Blk):=
 match k with
 | .cells t old=>if e == 0 && decide (j + cs.length <= old.length) then some (none,.cells t (setAt old j cs)) else none
 | .own t e' n f=>if e == e' && decide (j + cs.length <= e) then some (some (i < n),.own t e' n fun x=>if x = i then setAt (f i) j cs else f x) else none
 | .oints k L=>match cs with
  | [c]=>match intC k c with
   | some x=>if e == 1 && j == 0 then some (some (i < L.length),.oints k (L.set i x)) else none
   | none=>none
  | _=>none
 | _=>none
def storeReq (P : Program) (t : TypeId) (x v : SV) : Req:=
 match x,v.cells?,P.info? t with
 | .s (.c (.ptr b i e j)),some cs,some inf=>⟨[],[b],fun bl=>
   match bl with
   | [some k]=>if cs.length = inf.size then
     match blkSet k i e j cs with
     | some (p,k')=>oAst p (.ret ⟨.u,[some k'],[]⟩)
     | none=>.fail
    else .fail
   | _=>.fail⟩
 | _,_,_=>Req.fail
def SndU (P : Program) (μ : Mu) (h : Nat -> Option Blk) (w : World) (base : Nat) (r : Req) (x : Sem Unit) : Prop:=
 ∀ K,r.pre h K -> ∃ w' μ' res,x.run P w = .ok () w' /\ K res /\ Eff0 μ μ' h w base r.wr res undef w'
theorem setRow_keep (w : World) (g x : Nat) (cs : Array Value) (h : x ≠ g) : (w.setRow g cs).heap[x]? = w.heap[x]?:=by
 simp only [World.setRow,Array.getElem?_modify]
 simp [Ne.symm h]
theorem Eff0.write {μ : Mu} {h : Nat -> Option Blk} {w : World} {base b : Nat} {k k' : Blk} {l : Loc} {cs : Array Value} (hb : h b = some k) (hl : μ b = some l)
  (hx : k.excl w l l.b) (hu : ∀ x,k'.uses (w.setRow l.b cs) l x -> x = l.b) (hok : k'.ok μ (w.setRow l.b cs) l) : Eff0 μ μ h w base [b] ⟨.u,[some k'],[]⟩ undef (w.setRow l.b cs) where
 ext:=Ext.refl μ
 dom:=fun _ _ h=>.inl h
 val:=trivial
 os:=rfl
 tape:=rfl
 output:=rfl
 size:=by simp [World.setRow]
 keep:=fun x _ hk=>setRow_keep w l.b x cs fun e=>hk b k l (by simp) hb hl (by rw [e];exact hx)
 wrs:=by simp
 wsl:=rfl
 nsl:=by simp
 olds:=fun j n b' h1 h2=>by
  match j,h1,h2 with
  | 0,h1,h2=>
   simp at h1 h2
   subst h1;subst h2
   exact ⟨k,l,hb,hl,hok,fun x hx'=>.inl (by rw [hu x hx'];exact hx)⟩
  | j + 1,h1,_=>simp at h1
 news:=fun j b h=>by simp at h
 newsApart:=fun j k b c l m x _ h=>by simp at h
theorem setAt_len (old cs : List SC) (j : Nat) (h : j + cs.length <= old.length) : (setAt old j cs).length = old.length:=by simp [setAt];omega
theorem setAt_get (old cs : List SC) (j x : Nat) (h : j + cs.length <= old.length) : (setAt old j cs)[x]? = if x < j then old[x]? else if x < j + cs.length then cs[x - j]? else old[x]?:=by
 unfold setAt
 by_cases h1 : x < j
 ·rw [if_pos h1,List.append_assoc,List.getElem?_append_left (by simp;omega),List.getElem?_take_of_lt h1]
 ·rw [if_neg h1]
  by_cases h2 : x < j + cs.length
  ·rw [if_pos h2,List.append_assoc,List.getElem?_append_right (by simp;omega),List.getElem?_append_left (by simp;omega)]
   congr 1
   simp;omega
  ·rw [if_neg h2,List.getElem?_append_right (by simp;omega),List.getElem?_drop]
   congr 1
   simp;omega
theorem splice_get (cur : List Value) (us : List Value) (o x : Nat) (h : o + us.length <= cur.length) : (cur.take o ++ us ++ cur.drop (o + us.length))[x]? = if x < o then cur[x]? else if x < o + us.length then us[x - o]? else cur[x]?:=by
 by_cases h1 : x < o
 ·rw [if_pos h1,List.append_assoc,List.getElem?_append_left (by simp;omega),List.getElem?_take_of_lt h1]
 ·rw [if_neg h1]
  by_cases h2 : x < o + us.length
  ·rw [if_pos h2,List.append_assoc,List.getElem?_append_right (by simp;omega),List.getElem?_append_left (by simp;omega)]
   congr 1
   simp;omega
  ·rw [if_neg h2,List.getElem?_append_right (by simp;omega),List.getElem?_drop]
   congr 1
   simp;omega
theorem ownOk.store {P : Program} {μ : Mu} {w : World} {l : Loc} {tt : TypeId} {e n : Nat} {f : Nat -> List SC} {i j : Nat} {cs : List SC} {us : List Value} (hok : ownOk μ w l tt e n f) (hin : i < n) (hle : j + cs.length <= e) (ha : All2 (SC.ok μ) cs us) :
  ∃ cur,(storeCells ⟨l.b,l.off + (i * e + j),none⟩ us).run P w = .ok () (w.setRow l.b cur) /\ ownOk μ (w.setRow l.b cur) l tt e n (fun x=>if x = i then setAt (f i) j cs else f x) /\ Value.noRow l.hd = false:=by
 have hone:=ha.one_cell
 have hus : us.length = cs.length:=ha.len
 obtain ⟨a,c,xs,k1,k2,k3,k4,k5,k6⟩:=hok
 obtain ⟨ha',cur,hcur,hcs,hat⟩:=k5 (by omega)
 have hie : i * e + e <= n * e:=by
  have : (i + 1) * e <= n * e:=Nat.mul_le_mul_right e hin
  rw [Nat.add_mul] at this
  omega
 have hne : n * e <= c * e:=Nat.mul_le_mul_right e k2
 have hst:=run_storeCells_at P l.b (l.off + (i * e + j)) tt us 0 cur w hcur (by omega) hone
 have hno : Value.noRow l.hd = false:=by
  rw [k1]
  cases c with
  | zero=>omega
  | succ c=>rfl
 refine ⟨_,hst,⟨a,c,xs.take (i * e + j) ++ us ++ xs.drop (i * e + j + us.length),k1,k2,k3, ?_,fun _=>⟨ha',_,setRow_heap w l.b _ _ tt _ hcur, ?_, ?_⟩, ?_⟩,hno⟩
 ·simp;omega
 ·simp;omega
 ·intro x hx
  simp only [List.getElem?_toArray,Nat.add_zero]
  rw [splice_get _ _ _ _ (by simp;omega),splice_get _ _ _ _ (by omega)]
  by_cases h1 : x < i * e + j
  ·rw [if_pos (by omega),if_pos h1]
   simpa using hat x hx
  ·rw [if_neg (by omega),if_neg h1]
   by_cases h2 : x < i * e + j + us.length
   ·rw [if_pos (by omega),if_pos h2]
    congr 1
    omega
   ·rw [if_neg (by omega),if_neg h2]
    simpa using hat x hx
 ·intro y hyn
  by_cases hyi : y = i
  ·subst hyi
   simp only [if_true]
   obtain ⟨g1,g2⟩:=k6 y hyn
   refine ⟨by rw [setAt_len _ _ _ (by omega)];exact g1,fun z c' hz=>?_⟩
   rw [setAt_get _ _ _ _ (by omega)] at hz
   rw [splice_get _ _ _ _ (by omega)]
   split at hz
   ·rw [if_pos (by omega)]
    exact g2 z c' hz
   ·split at hz
    ·rw [if_neg (by omega),if_pos (by omega)]
     obtain ⟨v',hv',hok'⟩:=ha.get _ _ hz
     refine ⟨v', ?_,hok'⟩
     rw [← hv']
     congr 1
     omega
    ·rw [if_neg (by omega),if_neg (by omega)]
     exact g2 z c' hz
  ·simp only [hyi,if_false]
   obtain ⟨g1,g2⟩:=k6 y hyn
   refine ⟨g1,fun z c' hz=>?_⟩
   have hzl : z < e:=by
    have:=(List.getElem?_eq_some_iff.1 hz).1
    omega
   rw [splice_get _ _ _ _ (by omega)]
   have hdisj : y * e + z < i * e + j \/ i * e + j + us.length <= y * e + z:=by
    rcases Nat.lt_or_gt_of_ne hyi with hlt | hgt
    ·left
     have : (y + 1) * e <= i * e:=Nat.mul_le_mul_right e hlt
     rw [Nat.add_mul] at this
     omega
    ·right
     have : (i + 1) * e <= y * e:=Nat.mul_le_mul_right e hgt
     rw [Nat.add_mul] at this
     omega
   rcases hdisj with h1 | h1
   ·rw [if_pos h1];exact g2 z c' hz
   ·rw [if_neg (by omega),if_neg (by omega)];exact g2 z c' hz
def lessC (μ : Mu) : List SC -> List SC -> Prop
 | [],[]=>True
 | c :: cs,d :: ds=>(∀ v,c.ok μ v -> d.ok μ v) /\ lessC μ cs ds
 | _,_=>False
theorem lessC.len {μ : Mu} : ∀ {cs ds : List SC},lessC μ cs ds -> cs.length = ds.length
 | [],[],_=>rfl
 | _ :: _,_ :: _,h=>by simp [lessC.len h.2]
 | [],_ :: _,h=>h.elim
 | _ :: _,[],h=>h.elim
theorem lessC.get {μ : Mu} : ∀ {cs ds : List SC},lessC μ cs ds -> ∀ (j : Nat) (d : SC),ds[j]? = some d -> ∃ c,cs[j]? = some c /\ ∀ v,c.ok μ v -> d.ok μ v
 | _ :: _,_ :: _,h,0,d,hd=>by simp at hd;subst hd;exact ⟨_,rfl,h.1⟩
 | _ :: _,_ :: _,h,j + 1,d,hd=>by simpa using lessC.get h.2 j d (by simpa using hd)
 | [],[],_,j,d,hd=>by simp at hd
 | [],_ :: _,h,_,_,_=>h.elim
 | _ :: _,[],h,_,_,_=>h.elim
theorem Elems.congr {μ : Mu} {e n m : Nat} {f g : Nat -> List SC} {at_ : Nat -> Option Value} (h : Elems μ e n f at_) (hm : m = n) (hg : ∀ i,i < n -> lessC μ (f i) (g i)) : Elems μ e m g at_:=fun i hi=>by
 subst hm
 obtain ⟨h1,h2⟩:=h i hi
 refine ⟨by rw [← (hg i hi).len,h1],fun j c hc=>?_⟩
 obtain ⟨d,hd,hdc⟩:=(hg i hi).get j c hc
 obtain ⟨v,hv,hok⟩:=h2 j d hd
 exact ⟨v,hv,hdc v hok⟩
theorem ownOk.congr {μ : Mu} {w : World} {l : Loc} {t : TypeId} {e n m : Nat} {f g : Nat -> List SC} (h : ownOk μ w l t e n f) (hm : m = n) (hg : ∀ i,i < n -> lessC μ (f i) (g i)) : ownOk μ w l t e m g:=by
 subst hm
 obtain ⟨a,c,xs,k1,k2,k3,k4,k5,k6⟩:=h
 exact ⟨a,c,xs,k1,k2,k3,k4,k5,k6.congr rfl hg⟩
theorem store_ok {P : Program} {μ : Mu} {h : Nat -> Option Blk} {w : World} {base : Nat} {t : TypeId} {x y : SV} {u v : Value} (hm : HeapM μ h w) (hx : x.ok μ u) (hy : y.ok μ v) :
  SndU P μ h w base (storeReq P t x y) (Instr.storeAt t u v):=by
 intro K hk
 unfold storeReq at hk ⊢
 split at hk
 ·rename_i b i e j cs inf hc hi
  obtain ⟨l,hl,rfl⟩:=hx
  simp only [Req.pre,List.nil_append,List.map_cons,List.map_nil] at hk
  split at hk
  ·rename_i k hb
   simp at hb
   split at hk
   ·rename_i hlen
    split at hk
    ·rename_i p k' hs
     obtain ⟨hp,hk2⟩:=oAst_ok hk
     obtain ⟨l',hl',hok⟩:=hm.ok b k hb
     rw [hl] at hl';cases hl'
     have ha:=SV.cells_ok hc hy
     have hone:=ha.one_cell
     have hus : v.cells.toList.length = cs.length:=ha.len
     have hsz : v.cells.size = inf.size:=by rw [← hlen,← hus];simp
     have hrun : ∀ w',(storeCells ⟨l.b,l.off + (i * e + j),none⟩ v.cells.toList).run P w = .ok () w' →
       (Instr.storeAt t (.pointer (some ⟨l.b,l.off + (i * e + j),none⟩)) v).run P w = .ok () w':=fun w' hw=>by
      simp [Instr.storeAt,Instr.sureAddr,storeVar,run_sizeOf' hi,hsz,hw]
     cases k with
     | cells tt old=>
      simp only [blkSet] at hs
      split at hs
      ·rename_i hcond
       simp at hcond
       obtain ⟨rfl,hle⟩:=hcond
       simp at hs
       obtain ⟨_,rfl⟩:=hs
       obtain ⟨h0,vs,hv,ha0⟩:=hok
       have hvl:=ha0.len
       have hst:=run_storeCells_at P l.b (l.off + (i * 0 + j)) tt v.cells.toList 0 vs.toArray w hv (by simp [h0] at hus ⊢;omega) hone
       refine ⟨_,μ,_,hrun _ hst,hk2,Eff0.write hb hl rfl (fun x hx=>hx.symm) ⟨h0,_,setRow_heap w l.b _ _ tt _ hv, ?_⟩⟩
       have:=ha0.setAt (j:=j) ha
       simpa [h0] using this
      ·cases hs
     | view e' n f=>simp [blkSet] at hs
     | own tt e' n f=>
      simp only [blkSet] at hs
      split at hs
      ·rename_i hcond
       simp at hcond
       obtain ⟨rfl,hle⟩:=hcond
       simp at hs
       obtain ⟨rfl,rfl⟩:=hs
       obtain ⟨cur,hst,hok2,hno⟩:=ownOk.store (P:=P) hok hp hle ha
       exact ⟨_,μ,_,hrun _ hst,hk2,Eff0.write hb hl ⟨hno,rfl⟩ (fun x hx=>hx.2.symm) hok2⟩
      ·cases hs
     | ints q L=>simp [blkSet] at hs
     | obj _ _ _=>simp [blkSet] at hs
     | oints q L=>
      obtain ⟨tt,hok⟩:=hok
      simp only [blkSet] at hs
      split at hs
      ·rename_i c
       split at hs
       ·rename_i x hx0
        split at hs
        ·rename_i hcond
         simp at hcond
         obtain ⟨rfl,rfl⟩:=hcond
         simp at hs
         obtain ⟨rfl,rfl⟩:=hs
         obtain ⟨cur,hst,hok2,hno⟩:=ownOk.store (P:=P) (j:=0) hok hp (by simp) ha
         have hin : i < L.length:=hp
         refine ⟨_,μ,_,hrun _ hst,hk2,Eff0.write hb hl ⟨hno,rfl⟩ (fun x hx=>hx.2.symm) ?_⟩
         refine ⟨tt,ownOk.congr hok2 (by simp) fun y hy=>?_⟩
         have hcx : ∀ v : Value,c.ok μ v -> (SC.int q x).ok μ v:=fun v hv=>intC_ok hx0 hv
         by_cases hyi : y = i
         ·subst hyi
          simp only [if_true,setAt,intsF,List.getD_eq_getElem?_getD]
          simp [hin]
          exact ⟨hcx,trivial⟩
         ·simp only [hyi,if_false,intsF,List.getD_eq_getElem?_getD]
          rw [List.getElem?_set_ne (fun e=>hyi e.symm)]
          exact ⟨fun v hv=>hv,trivial⟩
        ·cases hs
       ·cases hs
      ·cases hs
    ·exact hk.elim
   ·exact hk.elim
  ·exact hk.elim
 ·exact hk.elim
end
end Zx
