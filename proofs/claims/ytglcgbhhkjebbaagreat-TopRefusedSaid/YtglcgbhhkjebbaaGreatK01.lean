/- A part of the proof: lemmas. No condition of its own. -/
import Derived.WalkKit
import Derived.Below
import Derived.Orders
import Derived.Test.YtglcgbhhkjebbaaGreatK00
set_option linter.unusedVariables false
set_option linter.unusedSimpArgs false
namespace Zx
noncomputable section
open Go
structure Loc where
 b : Nat
 off : Nat
 hd : Value
inductive SC where
 | num (k : IntKind) (n : Int)
 | int (k : IntKind) (n : Int)
 | tru (b : Bool)
 | boo (b : Bool)
 | str (s : ByteArray)
 | nil
 | ptr (b i e j : Nat)
 | sli (b i e j n c : Nat) (q : Bool)
 | own (b n c : Nat) (q : Bool)
 | nos
 | fn (f : FuncId)
 | zp (L : List CS)
 | zs (E : List CS) (n c : Nat) (q : Bool)
 | zpa (b o : Nat) (L : List CS)
 | zsa (b o : Nat) (E : List CS) (n c : Nat)
 | clo (f : FuncId) (caps : List (Nat × Nat × List CS))
structure Mu where
 loc : Nat -> Option Loc
 sig : Nat -> Nat -> Option CS
instance : CoeFun Mu (fun _=>Nat -> Option Loc):=⟨Mu.loc⟩
def Sits (sg : Nat -> Nat -> Option CS) (b o : Nat) (L : List CS) : Prop:=∀ j c,L[j]? = some c -> sg b (o + j) = some c
def SitsN (sg : Nat -> Nat -> Option CS) (a : Option Addr) (c : Nat) (E : List CS) : Prop:=0 < c -> ∃ b o,a = some ⟨b,o,none⟩ /\ ∀ i,i < c -> Sits sg b (o + i * E.length) E
def CS.ok (sg : Nat -> Nat -> Option CS) : CS -> Value -> Prop
 | .int _ k lo hi,v=>∃ n,v = .int k n /\ (hi < lo \/ (lo <= n /\ n <= hi))
 | .bool _,v=>∃ b,v = .bool b
 | .str _,v=>∃ s,v = .string s
 | .ptr _ nm nn,v=>(nn = false /\ v = .pointer none) \/ ∃ b o,v = .pointer (some ⟨b,o,none⟩) /\ Sits sg b o (zTab nm)
 | .sli _ nm mx,v=>∃ a n c,v = .slice a n c /\ n <= c /\ c <= maxLen /\ n <= mx /\ SitsN sg a c (zTab nm)
theorem Sits.pre {sg : Nat -> Nat -> Option CS} {b o : Nat} {L M : List CS} (h : preCS M L = true) (hs : Sits sg b o L) : Sits sg b o M:=fun j c hc=>hs j c (preCS_get h j c hc)
def Grows (sg sg' : Nat -> Nat -> Option CS) : Prop:=∀ b o c,sg b o = some c -> sg' b o = some c
theorem Sits.grow {sg sg' : Nat -> Nat -> Option CS} (h : Grows sg sg') {b o : Nat} {L : List CS} (hs : Sits sg b o L) : Sits sg' b o L:=fun j c hc=>h _ _ _ (hs j c hc)
theorem SitsN.grow {sg sg' : Nat -> Nat -> Option CS} (h : Grows sg sg') {a : Option Addr} {c : Nat} {E : List CS} (hs : SitsN sg a c E) : SitsN sg' a c E:=fun hc=>by
 obtain ⟨b,o,ha,hi⟩:=hs hc
 exact ⟨b,o,ha,fun i hlt=>(hi i hlt).grow h⟩
theorem CS.ok_grow {sg sg' : Nat -> Nat -> Option CS} (h : Grows sg sg') {c : CS} {v : Value} (hc : c.ok sg v) : c.ok sg' v:=by
 cases c with
 | ptr g nm nn=>
  rcases hc with hc | ⟨b,o,hv,hs⟩
  ·exact .inl hc
  ·exact .inr ⟨b,o,hv,hs.grow h⟩
 | sli g nm mx=>
  obtain ⟨a,n,c,hv,h1,h2,h4,h3⟩:=hc
  exact ⟨a,n,c,hv,h1,h2,h4,h3.grow h⟩
 | _=>exact hc
abbrev TF:=TypeId × (Nat × Nat)
def NF (f : Nat × Nat) (o : Nat) : Prop:=f.2 <= o \/ o < f.1
theorem NF.z {o : Nat} : NF (0,0) o:=.inl (Nat.zero_le _)
theorem cells_inj {x : Option Obj} {c c' : Array Value} {t t' : TF} (h : x = some (.cells c t.1 t.2)) (k : x = some (.cells c' t'.1 t'.2)) : c = c' /\ t = t':=by
 obtain ⟨t1,t2⟩:=t
 obtain ⟨t3,t4⟩:=t'
 rw [h] at k
 simp only [Option.some.injEq,Obj.cells.injEq] at k
 obtain ⟨rfl,rfl,rfl⟩:=k
 exact ⟨rfl,rfl⟩
def ZoneOk (sg : Nat -> Nat -> Option CS) (w : World) : Prop:=
 ∀ b o c,sg b o = some c -> ∃ (cur : Array Value) (t : TF) (v : Value),w.heap[b]? = some (.cells cur t.1 t.2) /\ cur[o]? = some v /\ c.ok sg v /\ NF t.2 o
def SC.ok (μ : Mu) : SC -> Value -> Prop
 | .num k n,v=>v = .int k n
 | .int k n,v=>v = .int k n
 | .tru b,v=>v = .bool b
 | .boo b,v=>v = .bool b
 | .str s,v=>v = .string s
 | .nil,v=>v = .pointer none
 | .ptr b i e j,v=>∃ l,μ b = some l /\ v = .pointer (some ⟨l.b,l.off + (i * e + j),none⟩)
 | .sli b i e j n c _,v=>∃ l a,μ b = some l /\ v = .slice a n c /\ (0 < c -> a = some ⟨l.b,l.off + (i * e + j),none⟩) /\ n <= c /\ c <= maxLen
 | .own b n c _,v=>∃ l a,μ b = some l /\ v = l.hd /\ l.hd = .slice a n c /\ (0 < c -> a = some ⟨l.b,l.off,none⟩) /\ n <= c /\ c <= maxLen
 | .nos,v=>∃ a,v = .slice a 0 0
 | .fn f,v=>v = .func (.func f) #[] #[]
 | .zp L,v=>∃ b o,v = .pointer (some ⟨b,o,none⟩) /\ Sits μ.sig b o L
 | .zs E n c _,v=>∃ a,v = .slice a n c /\ n <= c /\ c <= maxLen /\ SitsN μ.sig a c E
 | .zpa b o L,v=>v = .pointer (some ⟨b,o,none⟩) /\ Sits μ.sig b o L
 | .zsa b o E n c,v=>∃ a,v = .slice a n c /\ n <= c /\ c <= maxLen /\ (0 < c -> a = some ⟨b,o,none⟩ /\ ∀ i,i < c -> Sits μ.sig b (o + i * E.length) E)
 | .clo f cs,v=>v = .func (.func f) #[] (cs.map fun p=>Value.pointer (some ⟨p.1,p.2.1,none⟩)).toArray /\ ∀ p,p ∈ cs -> Sits μ.sig p.1 p.2.1 p.2.2
def All2 (R : SC -> Value -> Prop) : List SC -> List Value -> Prop
 | [],[]=>True
 | c :: cs,v :: vs=>R c v /\ All2 R cs vs
 | _,_=>False
inductive S1 where
 | c (x : SC)
 | a (cs : List SC)
def S1.ok (μ : Mu) : S1 -> Value -> Prop
 | .c x,v=>x.ok μ v
 | .a cs,v=>∃ vs : List Value,v = .agg vs.toArray /\ All2 (SC.ok μ) cs vs
def AllS (R : S1 -> Value -> Prop) : List S1 -> List Value -> Prop
 | [],[]=>True
 | c :: cs,v :: vs=>R c v /\ AllS R cs vs
 | _,_=>False
inductive SV where
 | s (x : S1)
 | t (xs : List S1)
 | u
def SV.ok (μ : Mu) : SV -> Value -> Prop
 | .s x,v=>x.ok μ v
 | .t xs,v=>∃ vs : List Value,v = .tuple vs.toArray /\ AllS (S1.ok μ) xs vs
 | .u,_=>True
inductive OL where
 | ints (k : IntKind) (l : List Int)
 | strs (l : List ByteArray)
 | raws (l : List Value)
def OL.vals : OL -> List Value
 | .ints k l=>l.map (.int k)
 | .strs l=>l.map .string
 | .raws l=>l
inductive Blk where
 | cells (t : TypeId) (cs : List SC)
 | view (e n : Nat) (f : Nat -> List SC)
 | own (t : TypeId) (e n : Nat) (f : Nat -> List SC)
 | ints (k : IntKind) (l : List Int)
 | oints (k : IntKind) (l : List Int)
 | obj (t : TypeId) (hd : List Int) (l : OL)
def intsF (k : IntKind) (l : List Int) (i : Nat) : List SC:=[.int k (l.getD i 0)]
def Elems (μ : Mu) (e n : Nat) (f : Nat -> List SC) (at_ : Nat -> Option Value) : Prop:=
 ∀ i,i < n -> (f i).length = e /\ ∀ j c,(f i)[j]? = some c -> ∃ v,at_ (i * e + j) = some v /\ c.ok μ v
def viewOk (μ : Mu) (w : World) (l : Loc) (e n : Nat) (f : Nat -> List SC) : Prop:=(0 < n -> l.b < w.heap.size) /\ Elems μ e n f fun x=>w.cell? ⟨l.b,l.off + x,none⟩
def ownOk (μ : Mu) (w : World) (l : Loc) (t : TypeId) (e n : Nat) (f : Nat -> List SC) : Prop:=
 ∃ (a : Option Addr) (c : Nat) (xs : List Value),l.hd = .slice a n c /\ n <= c /\ c <= maxLen /\ xs.length = n * e ∧
   (0 < c -> a = some ⟨l.b,l.off,none⟩ /\ ∃ cur : Array Value,w.heap[l.b]? = some (.cells cur t (0,0)) /\ l.off + c * e <= cur.size /\ ∀ x,x < n * e -> cur[l.off + x]? = xs[x]?) ∧
   Elems μ e n f fun x=>xs[x]?
def objOk (w : World) (l : Loc) (t : TypeId) (hd : List Int) (L : List Value) : Prop:=
 l.off = 0 /\ ∃ (a : Option Addr) (c : Nat),w.heap[l.b]? = some (.cells (hd.map (Value.int .i64) ++ [Value.slice a L.length c]).toArray t (0,0)) /\ L.length <= c /\ c <= maxLen ∧
  (0 < c -> ∃ (b off : Nat) (cur : Array Value) (tc : TypeId),a = some ⟨b,off,none⟩ /\ b ≠ l.b /\ w.heap[b]? = some (.cells cur tc (0,0)) /\ off + c <= cur.size /\ ∀ i,i < L.length -> cur[off + i]? = L[i]?)
def rowsOf : List Value -> Nat -> Prop
 | [.slice (some a) _ (_ + 1)],x=>a.block = x
 | _ :: vs,x=>rowsOf vs x
 | [],_=>False
def objFoot (w : World) (l : Loc) (x : Nat) : Prop:=l.b = x \/ match w.heap[l.b]? with
 | some (.cells cur _ _)=>rowsOf cur.toList x
 | _=>False
def Blk.ok (μ : Mu) (w : World) (l : Loc) : Blk -> Prop
 | .cells t cs=>l.off = 0 /\ ∃ vs : List Value,w.heap[l.b]? = some (.cells vs.toArray t (0,0)) /\ All2 (SC.ok μ) cs vs
 | .view e n f=>viewOk μ w l e n f
 | .own t e n f=>ownOk μ w l t e n f
 | .ints k L=>viewOk μ w l 1 L.length (intsF k L)
 | .oints k L=>∃ t,ownOk μ w l t 1 L.length (intsF k L)
 | .obj t hd L=>objOk w l t hd L.vals
def Value.noRow : Value -> Bool
 | .slice _ _ 0=>true
 | _=>false
def Blk.excl (w : World) (l : Loc) : Blk -> Nat -> Prop
 | .cells _ _,x=>l.b = x
 | .view _ _ _,_=>False
 | .own _ _ _ _,x=>Value.noRow l.hd = false /\ l.b = x
 | .ints _ _,_=>False
 | .oints _ _,x=>Value.noRow l.hd = false /\ l.b = x
 | .obj _ _ _,x=>objFoot w l x
def Blk.uses (w : World) (l : Loc) : Blk -> Nat -> Prop
 | .cells _ _,x=>l.b = x
 | .view _ n _,x=>n ≠ 0 /\ l.b = x
 | .own _ _ _ _,x=>Value.noRow l.hd = false /\ l.b = x
 | .ints _ L,x=>L.length ≠ 0 /\ l.b = x
 | .oints _ _,x=>Value.noRow l.hd = false /\ l.b = x
 | .obj _ _ _,x=>objFoot w l x
theorem Blk.uses_of_excl {w : World} {l : Loc} {b : Blk} {x : Nat} (h : b.excl w l x) : b.uses w l x:=by
 cases b <;> simp_all [Blk.excl,Blk.uses]
theorem Blk.uses_world {w w' : World} {l : Loc} {b : Blk} (h : ∀ x,b.uses w l x -> w'.heap[x]? = w.heap[x]?) (x : Nat) : (b.uses w' l x ↔ b.uses w l x) /\ (b.excl w' l x ↔ b.excl w l x):=by
 cases b with
 | obj t hd L=>
  have e : w'.heap[l.b]? = w.heap[l.b]?:=h l.b (.inl rfl)
  simp only [Blk.uses,Blk.excl,objFoot,e,and_self]
 | _=>exact ⟨Iff.rfl,Iff.rfl⟩
structure Ext (μ μ' : Mu) : Prop where
 loc : ∀ n l,μ n = some l -> μ' n = some l
 sig : Grows μ.sig μ'.sig
instance {μ μ' : Mu} : CoeFun (Ext μ μ') (fun _=>∀ n l,μ n = some l -> μ' n = some l):=⟨Ext.loc⟩
theorem Ext.refl (μ : Mu) : Ext μ μ:=⟨fun _ _ h=>h,fun _ _ _ h=>h⟩
theorem SC.ok_ext {μ μ' : Mu} (h : Ext μ μ') {c : SC} {v : Value} (hc : c.ok μ v) : c.ok μ' v:=by
 cases c with
 | ptr b i e j=>obtain ⟨l,hl,hv⟩:=hc;exact ⟨l,h _ _ hl,hv⟩
 | sli b i e j n c q=>obtain ⟨l,a,hl,hv⟩:=hc;exact ⟨l,a,h _ _ hl,hv⟩
 | own b n c q=>obtain ⟨l,a,hl,hv⟩:=hc;exact ⟨l,a,h _ _ hl,hv⟩
 | zp L=>obtain ⟨b,o,hv,hs⟩:=hc;exact ⟨b,o,hv,hs.grow h.sig⟩
 | zs E n c q=>obtain ⟨a,hv,h1,h2,h3⟩:=hc;exact ⟨a,hv,h1,h2,h3.grow h.sig⟩
 | zpa b o L=>exact ⟨hc.1,hc.2.grow h.sig⟩
 | zsa b o E n c=>obtain ⟨a,hv,h1,h2,h3⟩:=hc;exact ⟨a,hv,h1,h2,fun h0=>⟨(h3 h0).1,fun i hi=>((h3 h0).2 i hi).grow h.sig⟩⟩
 | clo f cs=>exact ⟨hc.1,fun p hp=>(hc.2 p hp).grow h.sig⟩
 | _=>exact hc
theorem All2.imp {R R' : SC -> Value -> Prop} (h : ∀ c v,R c v -> R' c v) : ∀ {cs : List SC} {vs : List Value},All2 R cs vs -> All2 R' cs vs
 | [],[],_=>trivial
 | _ :: _,_ :: _,hh=>⟨h _ _ hh.1,All2.imp h hh.2⟩
 | [],_ :: _,hh=>hh.elim
 | _ :: _,[],hh=>hh.elim
theorem All2.len {R : SC -> Value -> Prop} : ∀ {cs : List SC} {vs : List Value},All2 R cs vs -> vs.length = cs.length
 | [],[],_=>rfl
 | _ :: _,_ :: _,hh=>by simp [All2.len hh.2]
 | [],_ :: _,hh=>hh.elim
 | _ :: _,[],hh=>hh.elim
theorem All2.get {R : SC -> Value -> Prop} : ∀ {cs : List SC} {vs : List Value},All2 R cs vs -> ∀ (i : Nat) (c : SC),cs[i]? = some c -> ∃ v,vs[i]? = some v /\ R c v
 | [],_,_,_,_,h=>by simp at h
 | _ :: _,v :: _,hh,0,c,h=>by
  simp at h
  subst h
  exact ⟨v,rfl,hh.1⟩
 | _ :: cs,_ :: vs,hh,i + 1,c,h=>by
  simpa using All2.get hh.2 i c (by simpa using h)
 | _ :: _,[],hh,_,_,_=>hh.elim
theorem All2.mk {R : SC -> Value -> Prop} : ∀ {cs : List SC} {vs : List Value},vs.length = cs.length -> (∀ (i : Nat) (c : SC) (v : Value),cs[i]? = some c -> vs[i]? = some v -> R c v) -> All2 R cs vs
 | [],[],_,_=>trivial
 | c :: cs,v :: vs,hl,h=>⟨h 0 c v rfl rfl,All2.mk (by simpa using hl) fun i c' v' h1 h2=>h (i + 1) c' v' (by simpa using h1) (by simpa using h2)⟩
 | [],_ :: _,hl,_=>by simp at hl
 | _ :: _,[],hl,_=>by simp at hl
theorem S1.ok_ext {μ μ' : Mu} (h : Ext μ μ') {x : S1} {v : Value} (hx : x.ok μ v) : x.ok μ' v:=by
 cases x with
 | c x=>exact SC.ok_ext h hx
 | a cs=>obtain ⟨vs,hv,ha⟩:=hx;exact ⟨vs,hv,ha.imp fun _ _=>SC.ok_ext h⟩
theorem AllS.imp {R R' : S1 -> Value -> Prop} (h : ∀ c v,R c v -> R' c v) : ∀ {cs : List S1} {vs : List Value},AllS R cs vs -> AllS R' cs vs
 | [],[],_=>trivial
 | _ :: _,_ :: _,hh=>⟨h _ _ hh.1,AllS.imp h hh.2⟩
 | [],_ :: _,hh=>hh.elim
 | _ :: _,[],hh=>hh.elim
theorem AllS.get {R : S1 -> Value -> Prop} : ∀ {cs : List S1} {vs : List Value},AllS R cs vs -> ∀ (i : Nat) (c : S1),cs[i]? = some c -> ∃ v,vs[i]? = some v /\ R c v
 | [],_,_,_,_,h=>by simp at h
 | _ :: _,v :: _,hh,0,c,h=>by
  simp at h
  subst h
  exact ⟨v,rfl,hh.1⟩
 | _ :: cs,_ :: vs,hh,i + 1,c,h=>by
  simpa using AllS.get hh.2 i c (by simpa using h)
 | _ :: _,[],hh,_,_,_=>hh.elim
theorem SV.ok_ext {μ μ' : Mu} (h : Ext μ μ') {x : SV} {v : Value} (hx : x.ok μ v) : x.ok μ' v:=by
 cases x with
 | s x=>exact S1.ok_ext h hx
 | t xs=>obtain ⟨vs,hv,ha⟩:=hx;exact ⟨vs,hv,ha.imp fun _ _=>S1.ok_ext h⟩
 | u=>trivial
theorem Elems.ext {μ μ' : Mu} (h : Ext μ μ') {e n : Nat} {f : Nat -> List SC} {a : Nat -> Option Value} (hx : Elems μ e n f a) : Elems μ' e n f a:=fun i hi=>by
 obtain ⟨h1,h2⟩:=hx i hi
 exact ⟨h1,fun j c hc=>by obtain ⟨v,hv,hok⟩:=h2 j c hc;exact ⟨v,hv,SC.ok_ext h hok⟩⟩
theorem viewOk.ext {μ μ' : Mu} (h : Ext μ μ') {w : World} {l : Loc} {e n : Nat} {f : Nat -> List SC} (hb : viewOk μ w l e n f) : viewOk μ' w l e n f:=⟨hb.1,hb.2.ext h⟩
theorem ownOk.ext {μ μ' : Mu} (h : Ext μ μ') {w : World} {l : Loc} {t : TypeId} {e n : Nat} {f : Nat -> List SC} (hb : ownOk μ w l t e n f) : ownOk μ' w l t e n f:=by
 obtain ⟨a,c,xs,h1,h2,h3,h4,h5,h6⟩:=hb
 exact ⟨a,c,xs,h1,h2,h3,h4,h5,h6.ext h⟩
theorem Blk.ok_ext {μ μ' : Mu} (h : Ext μ μ') {w : World} {l : Loc} {b : Blk} (hb : b.ok μ w l) : b.ok μ' w l:=by
 cases b with
 | cells t cs=>obtain ⟨h0,vs,hv,ha⟩:=hb;exact ⟨h0,vs,hv,ha.imp fun _ _=>SC.ok_ext h⟩
 | view e n f=>exact viewOk.ext h hb
 | own t e n f=>exact ownOk.ext h hb
 | ints k L=>exact viewOk.ext h hb
 | oints k L=>obtain ⟨t,hb⟩:=hb;exact ⟨t,ownOk.ext h hb⟩
 | obj t hd L=>exact hb
theorem viewOk.world {μ : Mu} {w w' : World} {l : Loc} {e n : Nat} {f : Nat -> List SC} (hb : viewOk μ w l e n f) (hsz : w.heap.size <= w'.heap.size) (h : n ≠ 0 -> w'.heap[l.b]? = w.heap[l.b]?) : viewOk μ w' l e n f:=by
 refine ⟨fun hn=>by have:=hb.1 hn;omega,fun i hi=>?_⟩
 obtain ⟨h1,h2⟩:=hb.2 i hi
 refine ⟨h1,fun j c hc=>?_⟩
 obtain ⟨v,hv,hok⟩:=h2 j c hc
 refine ⟨v, ?_,hok⟩
 have:=h (by omega)
 simp only [World.cell?] at hv ⊢
 rw [this]
 exact hv
theorem ownOk.world {μ : Mu} {w w' : World} {l : Loc} {t : TypeId} {e n : Nat} {f : Nat -> List SC} (hb : ownOk μ w l t e n f) (h : Value.noRow l.hd = false -> w'.heap[l.b]? = w.heap[l.b]?) : ownOk μ w' l t e n f:=by
 obtain ⟨a,c,xs,h1,h2,h3,h4,h5,h6⟩:=hb
 refine ⟨a,c,xs,h1,h2,h3,h4,fun hc=>?_,h6⟩
 obtain ⟨ha,cur,hcur,hr⟩:=h5 hc
 refine ⟨ha,cur, ?_,hr⟩
 have hno : Value.noRow l.hd = false:=by
  rw [h1]
  cases c with
  | zero=>omega
  | succ c=>rfl
 exact (h hno).trans hcur
theorem rowsOf_snoc {a : Addr} {n c : Nat} : ∀ {vs : List Int},rowsOf (vs.map (Value.int .i64) ++ [Value.slice (some a) n (c + 1)]) a.block
 | []=>rfl
 | v :: vs=>by
  have:=rowsOf_snoc (a:=a) (n:=n) (c:=c) (vs:=vs)
  cases vs with
  | nil=>exact this
  | cons _ _=>exact this
theorem rowsOf_inv {a : Option Addr} {n c x : Nat} : ∀ {vs : List Int},rowsOf (vs.map (Value.int .i64) ++ [Value.slice a n c]) x -> ∃ b,a = some b /\ 0 < c /\ b.block = x
 | [],h=>by
  cases a with
  | none=>cases c <;> exact h.elim
  | some a=>cases c with
   | zero=>exact h.elim
   | succ c=>exact ⟨a,rfl,by omega,h⟩
 | v :: vs,h=>by
  have h' : rowsOf (vs.map (Value.int .i64) ++ [Value.slice a n c]) x:=by
   cases vs with
   | nil=>exact h
   | cons _ _=>exact h
  exact rowsOf_inv h'
theorem objOk.world {w w' : World} {l : Loc} {t : TypeId} {hd : List Int} {L : List Value} (hb : objOk w l t hd L) (h : ∀ x,objFoot w l x -> w'.heap[x]? = w.heap[x]?) : objOk w' l t hd L:=by
 obtain ⟨h0,a,c,h1,h2,h3,h4⟩:=hb
 refine ⟨h0,a,c,(h _ (.inl rfl)).trans h1,h2,h3,fun hc=>?_⟩
 obtain ⟨b,off,cur,tc,g1,g2,g3,g4,g5⟩:=h4 hc
 refine ⟨b,off,cur,tc,g1,g2,(h b (.inr ?_)).trans g3,g4,g5⟩
 rw [h1]
 obtain ⟨c,rfl⟩ : ∃ k,c = k + 1:=⟨c - 1,by omega⟩
 subst g1
 exact rowsOf_snoc
theorem Blk.ok_world {μ : Mu} {w w' : World} {l : Loc} {b : Blk} (hb : b.ok μ w l) (hsz : w.heap.size <= w'.heap.size) (h : ∀ x,b.uses w l x -> w'.heap[x]? = w.heap[x]?) : b.ok μ w' l:=by
 cases b with
 | cells t cs=>obtain ⟨h0,vs,hv,ha⟩:=hb;exact ⟨h0,vs,(h _ rfl).trans hv,ha⟩
 | view e n f=>exact viewOk.world hb hsz fun hn=>h l.b ⟨hn,rfl⟩
 | own t e n f=>exact ownOk.world hb fun hn=>h l.b ⟨hn,rfl⟩
 | ints k L=>exact viewOk.world hb hsz fun hn=>h l.b ⟨hn,rfl⟩
 | oints k L=>obtain ⟨t,hb⟩:=hb;exact ⟨t,ownOk.world hb fun hn=>h l.b ⟨hn,rfl⟩⟩
 | obj t hd L=>exact objOk.world hb h
structure Lf (p : Prop) : Prop where
 h : p
inductive Out (α : Type) : Type 1 where
 | ret (a : α)
 | fail
 | eqn {A : Type} (e : A) (f : A -> Out α)
 | br (c : Prop) (x y : Out α)
 | brB (b : Bool) (x y : Out α)
 | ast (p : Prop) (k : Out α)
 | fact (p : Prop) (h : p) (k : Out α)
 | all {A : Type} (φ : A -> Prop) (ne : ∃ a,φ a) (f : A -> Out α)
def Out.wp {α : Type} : Out α -> (α -> Prop) -> Prop
 | .ret a,K=>K a
 | .fail,_=>False
 | .eqn e f,K=>∀ x,x = e -> (f x).wp K
 | .br c x y,K=>(c -> x.wp K) /\ (¬c -> y.wp K)
 | .brB b x y,K=>(b = true -> x.wp K) /\ (b = false -> y.wp K)
 | .ast p k,K=>Lf p /\ k.wp K
 | .fact p _ k,K=>p -> k.wp K
 | .all φ _ f,K=>∀ x,φ x -> (f x).wp K
def Out.posts {α : Type} : Out α -> α -> Prop
 | .ret a,r=>r = a
 | .fail,_=>False
 | .eqn e f,r=>(f e).posts r
 | .br c x y,r=>(c /\ x.posts r) \/ (¬c /\ y.posts r)
 | .brB b x y,r=>(b = true /\ x.posts r) \/ (b = false /\ y.posts r)
 | .ast _ k,r=>k.posts r
 | .fact _ _ k,r=>k.posts r
 | .all φ _ f,r=>∃ x,φ x /\ (f x).posts r
def Out.bind {α β : Type} : Out α -> (α -> Out β) -> Out β
 | .ret a,g=>g a
 | .fail,_=>.fail
 | .eqn e f,g=>.eqn e fun x=>(f x).bind g
 | .br c x y,g=>.br c (x.bind g) (y.bind g)
 | .brB b x y,g=>.brB b (x.bind g) (y.bind g)
 | .ast p k,g=>.ast p (k.bind g)
 | .fact p h k,g=>.fact p h (k.bind g)
 | .all φ ne f,g=>.all φ ne fun x=>(f x).bind g
theorem Out.wp_mono {α : Type} {K K' : α -> Prop} (h : ∀ a,K a -> K' a) : ∀ {o : Out α},o.wp K -> o.wp K'
 | .ret _,hh=>h _ hh
 | .fail,hh=>hh
 | .eqn _ _,hh=>fun x hx=>Out.wp_mono h (hh x hx)
 | .br _ _ _,hh=>⟨fun c=>Out.wp_mono h (hh.1 c),fun c=>Out.wp_mono h (hh.2 c)⟩
 | .brB _ _ _,hh=>⟨fun c=>Out.wp_mono h (hh.1 c),fun c=>Out.wp_mono h (hh.2 c)⟩
 | .ast _ _,hh=>⟨hh.1,Out.wp_mono h hh.2⟩
 | .fact _ _ _,hh=>fun c=>Out.wp_mono h (hh c)
 | .all _ _ _,hh=>fun x hx=>Out.wp_mono h (hh x hx)
theorem Out.wp_posts {α : Type} {K : α -> Prop} : ∀ {o : Out α},o.wp K -> ∀ r,o.posts r -> K r
 | .ret _,hh,_,hr=>by cases hr;exact hh
 | .fail,hh,_,_=>hh.elim
 | .eqn _ _,hh,r,hr=>Out.wp_posts (hh _ rfl) r hr
 | .br _ _ _,hh,r,hr=>by
  rcases hr with ⟨c,hr⟩ | ⟨c,hr⟩
  ·exact Out.wp_posts (hh.1 c) r hr
  ·exact Out.wp_posts (hh.2 c) r hr
 | .brB _ _ _,hh,r,hr=>by
  rcases hr with ⟨c,hr⟩ | ⟨c,hr⟩
  ·exact Out.wp_posts (hh.1 c) r hr
  ·exact Out.wp_posts (hh.2 c) r hr
 | .ast _ _,hh,r,hr=>Out.wp_posts hh.2 r hr
 | .fact _ p _,hh,r,hr=>Out.wp_posts (hh p) r hr
 | .all _ _ _,hh,r,⟨x,hx,hr⟩=>Out.wp_posts (hh x hx) r hr
theorem Out.some_ {α : Type} {K : α -> Prop} : ∀ {o : Out α},o.wp K -> ∃ r,o.posts r
 | .ret a,_=>⟨a,rfl⟩
 | .fail,hh=>hh.elim
 | .eqn e f,hh=>Out.some_ (o:=f e) (hh e rfl)
 | .br c _ _,hh=>by
  by_cases h : c
  ·obtain ⟨r,hr⟩:=Out.some_ (hh.1 h);exact ⟨r,.inl ⟨h,hr⟩⟩
  ·obtain ⟨r,hr⟩:=Out.some_ (hh.2 h);exact ⟨r,.inr ⟨h,hr⟩⟩
 | .brB b _ _,hh=>by
  cases h : b
  ·obtain ⟨r,hr⟩:=Out.some_ (hh.2 h);exact ⟨r,.inr ⟨rfl,hr⟩⟩
  ·obtain ⟨r,hr⟩:=Out.some_ (hh.1 h);exact ⟨r,.inl ⟨rfl,hr⟩⟩
 | .ast _ k,hh=>Out.some_ (o:=k) hh.2
 | .fact _ p k,hh=>Out.some_ (o:=k) (hh p)
 | .all _ ne _,hh=>by
  obtain ⟨x,hx⟩:=ne
  obtain ⟨r,hr⟩:=Out.some_ (hh x hx)
  exact ⟨r,x,hx,hr⟩
theorem Out.wp_const {α : Type} {X : Prop} {o : Out α} (h : o.wp fun _=>X) : X:=by
 obtain ⟨r,hr⟩:=Out.some_ h
 exact Out.wp_posts h r hr
theorem Out.wp_and {α : Type} {K K' : α -> Prop} : ∀ {o : Out α},o.wp K -> (∀ r,o.posts r -> K r -> K' r) -> o.wp K'
 | .ret _,hh,h=>h _ rfl hh
 | .fail,hh,_=>hh
 | .eqn _ _,hh,h=>fun x hx=>by subst hx;exact Out.wp_and (hh _ rfl) h
 | .br _ _ _,hh,h=>⟨fun c=>Out.wp_and (hh.1 c) fun r hr=>h r (.inl ⟨c,hr⟩),fun c=>Out.wp_and (hh.2 c) fun r hr=>h r (.inr ⟨c,hr⟩)⟩
 | .brB _ _ _,hh,h=>⟨fun c=>Out.wp_and (hh.1 c) fun r hr=>h r (.inl ⟨c,hr⟩),fun c=>Out.wp_and (hh.2 c) fun r hr=>h r (.inr ⟨c,hr⟩)⟩
 | .ast _ _,hh,h=>⟨hh.1,Out.wp_and hh.2 h⟩
 | .fact _ _ _,hh,h=>fun c=>Out.wp_and (hh c) h
 | .all _ _ _,hh,h=>fun x hx=>Out.wp_and (hh x hx) fun r hr=>h r ⟨x,hx,hr⟩
theorem Out.wp_swap {α β : Type} {a : Out α} {b : Out β} {K : α -> β -> Prop} (h : a.wp fun x=>b.wp fun y=>K x y) : b.wp fun y=>a.wp fun x=>K x y:=by
 obtain ⟨x0,hx0⟩:=Out.some_ h
 have hb:=Out.wp_posts h x0 hx0
 refine Out.wp_and hb fun y hy _=>?_
 exact Out.wp_and h fun x _ hxb=>Out.wp_posts hxb y hy
theorem Out.wp_bind {α β : Type} {g : α -> Out β} {K : β -> Prop} : ∀ {o : Out α},(o.bind g).wp K ↔ o.wp fun a=>(g a).wp K
 | .ret _=>Iff.rfl
 | .fail=>Iff.rfl
 | .eqn _ _=>forall_congr' fun _=>forall_congr' fun _=>Out.wp_bind
 | .br _ _ _=>and_congr (forall_congr' fun _=>Out.wp_bind) (forall_congr' fun _=>Out.wp_bind)
 | .brB _ _ _=>and_congr (forall_congr' fun _=>Out.wp_bind) (forall_congr' fun _=>Out.wp_bind)
 | .ast _ _=>and_congr Iff.rfl Out.wp_bind
 | .fact _ _ _=>forall_congr' fun _=>Out.wp_bind
 | .all _ _ _=>forall_congr' fun _=>forall_congr' fun _=>Out.wp_bind
end
end Zx
namespace Zx
noncomputable section
open Go
structure St where
  slots : List SV
  heap : Nat → Option Blk
  next : Nat
def upd (h : Nat → Option Blk) (n : Nat) (b : Option Blk) : Nat → Option Blk:=fun m=>if m = n then b else h m
def updL : (Nat → Option Blk) → List Nat → List (Option Blk) → Nat → Option Blk
  | h,n :: ns,b :: bs=>updL (upd h n b) ns bs
  | h,_,_=>h
structure Res where
  v : SV
  ws : List (Option Blk)
  ns : List Blk
def freshN (base : Nat) : List Nat:=[base,base + 1,base + 2,base + 3]
def putS (slots : List SV) (dst : Option Nat) (x : SV) : List SV:=
  match dst with
  | some d=>slots.set d x
  | none=>slots
def applyH (h : Nat → Option Blk) (base : Nat) (wr : List Nat) (r : Res) : Nat → Option Blk:=updL (updL h wr r.ws) (freshN base) (r.ns.map some)
def St.apply (s : St) (dst : Option Nat) (base : Nat) (wr : List Nat) (r : Res) : St:=
  { s with slots:=putS s.slots dst r.v,heap:=applyH s.heap base wr r }
theorem updL_get : ∀ (ns : List Nat) (bs : List (Option Blk)) (h : Nat → Option Blk) (m : Nat),ns.Nodup →
    (∃ (j : Nat) (b : Option Blk),ns[j]? = some m ∧ bs[j]? = some b ∧ updL h ns bs m = b) ∨ ((∀ (j : Nat) (b : Option Blk),ns[j]? = some m → bs[j]? = some b → False) ∧ updL h ns bs m = h m)
  | [],_,_,_,_=>.inr ⟨fun j b h=>by simp at h,rfl⟩
  | n :: ns,[],h,m,_=>.inr ⟨fun j b _ h=>by simp at h,rfl⟩
  | n :: ns,b :: bs,h,m,hn=>by
    obtain ⟨h1,h2⟩:=List.nodup_cons.1 hn
    rcases updL_get ns bs (upd h n b) m h2 with ⟨j,c,e1,e2,e3⟩ | ⟨e1,e2⟩
    · exact .inl ⟨j + 1,c,by simpa using e1,by simpa using e2,e3⟩
    · by_cases hm : m = n
      · subst hm
        exact .inl ⟨0,b,rfl,rfl,by simp only [updL];rw [e2];simp [upd]⟩
      · refine .inr ⟨fun j c hj hc=>?_,by simp only [updL];rw [e2];simp [upd,hm]⟩
        cases j with
        | zero=>simp at hj;exact hm hj.symm
        | succ j=>exact e1 j c (by simpa using hj) (by simpa using hc)
theorem nodup_idx {α : Type} : ∀ {l : List α} {i j : Nat} {x : α},l.Nodup → l[i]? = some x → l[j]? = some x → i = j
  | [],i,j,x,_,h,_=>by simp at h
  | a :: l,0,0,x,_,_,_=>rfl
  | a :: l,0,j + 1,x,hn,h,k=>by
    simp at h k
    subst h
    exact absurd (List.mem_of_getElem? k) (List.nodup_cons.1 hn).1
  | a :: l,i + 1,0,x,hn,h,k=>by
    simp at h k
    subst k
    exact absurd (List.mem_of_getElem? h) (List.nodup_cons.1 hn).1
  | a :: l,i + 1,j + 1,x,hn,h,k=>by
    exact congrArg (· + 1) (nodup_idx (x:=x) (List.nodup_cons.1 hn).2 (by simpa using h) (by simpa using k))
structure HeapM (μ : Mu) (h : Nat → Option Blk) (w : World) : Prop where
  ok : ∀ n b,h n = some b → ∃ l,μ n = some l ∧ b.ok μ w l
  apart : ∀ n m b c l k x,n ≠ m → h n = some b → h m = some c → μ n = some l → μ m = some k → b.excl w l x → ¬c.uses w k x
  zone : ZoneOk μ.sig w
  zap : ∀ n b l x o,h n = some b → μ n = some l → b.uses w l x → μ.sig x o = none
theorem heap_lt {w : World} {x : Nat} {o : Obj} (h : w.heap[x]? = some o) : x < w.heap.size:=by
  rcases Nat.lt_or_ge x w.heap.size with h' | h'
  · exact h'
  · rw [Array.getElem?_eq_none h'] at h;cases h
theorem ownOk.lt {μ : Mu} {w : World} {l : Loc} {t : TypeId} {e n : Nat} {f : Nat → List SC} (hb : ownOk μ w l t e n f) (hno : Value.noRow l.hd = false) : l.b < w.heap.size:=by
  obtain ⟨a,c,xs,h1,_,_,_,h5,_⟩:=hb
  have hc : 0 < c:=by
    rcases Nat.eq_zero_or_pos c with h0 | h0
    · subst h0;rw [h1] at hno;cases hno
    · exact h0
  obtain ⟨_,cur,hcur,_⟩:=h5 hc
  exact heap_lt hcur
theorem objOk.lt {w : World} {l : Loc} {t : TypeId} {hd : List Int} {L : List Value} {x : Nat} (hb : objOk w l t hd L) (h : objFoot w l x) : x < w.heap.size:=by
  obtain ⟨h0,a,c,h1,h2,h3,h4⟩:=hb
  rcases h with rfl | h
  · exact heap_lt h1
  · rw [h1] at h
    obtain ⟨b,rfl,hc,rfl⟩:=rowsOf_inv h
    obtain ⟨b',off,cur,tc,g1,g2,g3,g4,g5⟩:=h4 hc
    cases g1
    exact heap_lt g3
theorem Blk.uses_lt {μ : Mu} {w : World} {l : Loc} {b : Blk} {x : Nat} (hb : b.ok μ w l) (h : b.uses w l x) : x < w.heap.size:=by
  cases b with
  | cells t cs=>
    obtain ⟨_,vs,hv,_⟩:=hb
    obtain rfl : l.b = x:=h
    exact heap_lt hv
  | view e n f=>obtain ⟨hn,rfl⟩:=h;exact hb.1 (by omega)
  | own t e n f=>obtain ⟨hn,rfl⟩:=h;exact ownOk.lt hb hn
  | ints k L=>obtain ⟨hn,rfl⟩:=h;exact hb.1 (by omega)
  | oints k L=>obtain ⟨hn,rfl⟩:=h;obtain ⟨t,hb⟩:=hb;exact hb.lt hn
  | obj t hd L=>exact objOk.lt hb h
structure Eff0 (μ μ' : Mu) (h : Nat → Option Blk) (w : World) (base : Nat) (wr : List Nat) (r : Res) (v : Value) (w' : World) : Prop where
  ext : Ext μ μ'
  dom : ∀ n l,μ' n = some l → μ n = some l ∨ n ∈ freshN base
  val : r.v.ok μ' v
  os : w'.os = w.os
  tape : w'.tape = w.tape
  output : w'.output = w.output
  size : w.heap.size ≤ w'.heap.size
  keep : ∀ x,x < w.heap.size → (∀ n b l,n ∈ wr → h n = some b → μ n = some l → ¬b.excl w l x) → w'.heap[x]? = w.heap[x]?
  wrs : wr.Nodup
  wsl : r.ws.length = wr.length
  nsl : r.ns.length ≤ 4
  olds : ∀ (j n : Nat) (b' : Blk),wr[j]? = some n → r.ws[j]? = some (some b') → ∃ b l,h n = some b ∧ μ n = some l ∧ b'.ok μ' w' l ∧ (∀ x,b'.uses w' l x → b.excl w l x ∨ (w.heap.size ≤ x ∧ wr = [n] ∧ r.ns = []))
  news : ∀ (j : Nat) (b : Blk),r.ns[j]? = some b → ∃ l,μ' (base + j) = some l ∧ b.ok μ' w' l ∧ ∀ x,b.uses w' l x → w.heap.size ≤ x ∨ (∃ (k n : Nat) (c : Blk) (m : Loc),wr[k]? = some n ∧ r.ws[k]? = some none ∧ h n = some c ∧ μ n = some m ∧ c.excl w m x)
  newsApart : ∀ (j k : Nat) (b c : Blk) (l m : Loc) (x : Nat),j ≠ k → r.ns[j]? = some b → r.ns[k]? = some c → μ' (base + j) = some l → μ' (base + k) = some m → b.excl w' l x → ¬c.uses w' m x
  sg : μ'.sig = μ.sig:=by rfl
structure Eff (μ μ' : Mu) (h : Nat → Option Blk) (w : World) (base : Nat) (wr : List Nat) (r : Res) (v : Value) (w' : World) : Prop where
  ext : Ext μ μ'
  dom : ∀ n l,μ' n = some l → μ n = some l ∨ n ∈ freshN base
  val : r.v.ok μ' v
  os : w'.os = w.os
  tape : w'.tape = w.tape
  output : w'.output = w.output
  size : w.heap.size ≤ w'.heap.size
  keep : ∀ x,x < w.heap.size → (∀ n b l,n ∈ wr → h n = some b → μ n = some l → ¬b.excl w l x) → (∀ o,μ.sig x o = none) → w'.heap[x]? = w.heap[x]?
  wrs : wr.Nodup
  wsl : r.ws.length = wr.length
  nsl : r.ns.length ≤ 4
  olds : ∀ (j n : Nat) (b' : Blk),wr[j]? = some n → r.ws[j]? = some (some b') → ∃ b l,h n = some b ∧ μ n = some l ∧ b'.ok μ' w' l ∧ (∀ x,b'.uses w' l x → b.excl w l x ∨ (w.heap.size ≤ x ∧ wr = [n] ∧ r.ns = []))
  news : ∀ (j : Nat) (b : Blk),r.ns[j]? = some b → ∃ l,μ' (base + j) = some l ∧ b.ok μ' w' l ∧ ∀ x,b.uses w' l x → w.heap.size ≤ x ∨ (∃ (k n : Nat) (c : Blk) (m : Loc),wr[k]? = some n ∧ r.ws[k]? = some none ∧ h n = some c ∧ μ n = some m ∧ c.excl w m x)
  newsApart : ∀ (j k : Nat) (b c : Blk) (l m : Loc) (x : Nat),j ≠ k → r.ns[j]? = some b → r.ns[k]? = some c → μ' (base + j) = some l → μ' (base + k) = some m → b.excl w' l x → ¬c.uses w' m x
  zone : ZoneOk μ'.sig w'
  zgrow : ∀ x o c,μ'.sig x o = some c → (∃ o' c',μ.sig x o' = some c') ∨ w.heap.size ≤ x ∨ (∃ (k n : Nat) (c : Blk) (m : Loc),wr[k]? = some n ∧ r.ws[k]? = some none ∧ h n = some c ∧ μ n = some m ∧ c.excl w m x)
  zold : ∀ (j n : Nat) (b' : Blk) (l : Loc) (x o : Nat),wr[j]? = some n → r.ws[j]? = some (some b') → μ n = some l → b'.uses w' l x → μ'.sig x o = none
  znew : ∀ (j : Nat) (b : Blk) (l : Loc) (x o : Nat),r.ns[j]? = some b → μ' (base + j) = some l → b.uses w' l x → μ'.sig x o = none
theorem ZoneOk.lt {sg : Nat → Nat → Option CS} {w : World} (h : ZoneOk sg w) {b o : Nat} {c : CS} (hc : sg b o = some c) : b < w.heap.size:=by
  obtain ⟨cur,t,v,h1,_⟩:=h b o c hc
  exact heap_lt h1
theorem ZoneOk.keep {sg : Nat → Nat → Option CS} {w w' : World} (h : ZoneOk sg w) (hk : ∀ b o c,sg b o = some c → w'.heap[b]? = w.heap[b]?) : ZoneOk sg w':=fun b o c hc=>by
  obtain ⟨cur,t,v,h1,h2⟩:=h b o c hc
  exact ⟨cur,t,v,(hk b o c hc).trans h1,h2⟩
theorem Eff0.eff {μ μ' : Mu} {h : Nat → Option Blk} {w w' : World} {base : Nat} {wr : List Nat} {r : Res} {v : Value} (hm : HeapM μ h w) (he : Eff0 μ μ' h w base wr r v w') : Eff μ μ' h w base wr r v w':=
  have out : ∀ n b l x o c,h n = some b → μ n = some l → b.uses w l x → μ.sig x o = some c → False:=fun n b l x o c h1 h2 h3 h4=>by
    rw [hm.zap n b l x o h1 h2 h3] at h4;cases h4
  have zn : ∀ x o,(w.heap.size ≤ x ∨ ∃ n b l,h n = some b ∧ μ n = some l ∧ b.excl w l x) → μ'.sig x o = none:=fun x o hx=>by
    rw [he.sg]
    cases hs : μ.sig x o with
    | none=>rfl
    | some c=>
      rcases hx with hx | ⟨n,b,l,h1,h2,h3⟩
      · have:=hm.zone.lt hs;omega
      · exact (out n b l x o c h1 h2 (Blk.uses_of_excl h3) hs).elim
  { ext:=he.ext,dom:=he.dom,val:=he.val,os:=he.os,tape:=he.tape,output:=he.output,size:=he.size,keep:=fun x h1 h2 _=>he.keep x h1 h2,wrs:=he.wrs,wsl:=he.wsl,nsl:=he.nsl,olds:=he.olds,news:=he.news,newsApart:=he.newsApart
    zone:=by
      rw [he.sg]
      exact hm.zone.keep fun b o c hs=>he.keep b (hm.zone.lt hs) fun n k l _ h1 h2 h3=>out n k l b o c h1 h2 (Blk.uses_of_excl h3) hs
    zgrow:=fun x o c hs=>.inl ⟨o,c,by rw [← he.sg];exact hs⟩
    zold:=fun j n b' l x o h1 h2 h3 h4=>by
      obtain ⟨b,l',g1,g2,_,g4⟩:=he.olds j n b' h1 h2
      rw [h3] at g2;cases g2
      rcases g4 x h4 with g | g
      · exact zn x o (.inr ⟨n,b,l,g1,h3,g⟩)
      · exact zn x o (.inl g.1)
    znew:=fun j b l x o h1 h2 h3=>by
      obtain ⟨l',g1,_,g3⟩:=he.news j b h1
      rw [h2] at g1;cases g1
      rcases g3 x h3 with g | ⟨k,n,c,m,a1,a2,a3,a4,a5⟩
      · exact zn x o (.inl g)
      · exact zn x o (.inr ⟨n,c,m,a3,a4,a5⟩) }
theorem Eff0.pure {μ : Mu} {h : Nat → Option Blk} {w : World} {base : Nat} {x : SV} {v : Value} (hv : x.ok μ v) : Eff0 μ μ h w base [] ⟨x,[],[]⟩ v w:=
  { ext:=Ext.refl μ,dom:=fun _ _ h=>.inl h,val:=hv,os:=rfl,tape:=rfl,output:=rfl,size:=Nat.le_refl _,keep:=fun _ _ _=>rfl,wrs:=List.nodup_nil,wsl:=rfl,nsl:=by simp,
    olds:=fun j n b' h=>by simp at h,news:=fun j b h=>by simp at h,newsApart:=fun j k b c l m x _ h=>by simp at h }
theorem freshN_get {base m : Nat} {j : Nat} (h : (freshN base)[j]? = some m) : m = base + j ∧ j < 4:=by
  match j,h with
  | 0,h=>simp [freshN] at h;omega
  | 1,h=>simp [freshN] at h;omega
  | 2,h=>simp [freshN] at h;omega
  | 3,h=>simp [freshN] at h;omega
  | j + 4,h=>simp [freshN] at h
theorem freshN_nodup (base : Nat) : (freshN base).Nodup:=by simp [freshN]
theorem applyH_cases {μ μ' : Mu} {h : Nat → Option Blk} {w w' : World} {base : Nat} {wr : List Nat} {r : Res} {v : Value} (hm : HeapM μ h w) (hf : ∀ n ∈ freshN base,μ n = none)
    (he : Eff μ μ' h w base wr r v w') {n : Nat} {b : Blk} (hb : applyH h base wr r n = some b) :
    ∃ l,μ' n = some l ∧ b.ok μ' w' l ∧
      ((∃ (j : Nat),n = base + j ∧ r.ns[j]? = some b ∧ (∀ x,b.uses w' l x → w.heap.size ≤ x ∨ (∃ (k n : Nat) (c : Blk) (m : Loc),wr[k]? = some n ∧ r.ws[k]? = some none ∧ h n = some c ∧ μ n = some m ∧ c.excl w m x)))
       ∨ (∃ b0,h n = some b0 ∧ μ n = some l ∧ b0.ok μ w l ∧ (∀ x,b.uses w' l x → b0.uses w l x ∨ (w.heap.size ≤ x ∧ wr = [n] ∧ r.ns = [])) ∧ (∀ x,b.excl w' l x → b0.excl w l x ∨ (w.heap.size ≤ x ∧ wr = [n] ∧ r.ns = [])) ∧ ∀ (k : Nat),wr[k]? = some n → r.ws[k]? ≠ some none)):=by
  unfold applyH at hb
  rcases updL_get (freshN base) (r.ns.map some) (updL h wr r.ws) n (freshN_nodup base) with ⟨j,c,e1,e2,e3⟩ | ⟨e1,e2⟩
  · obtain ⟨rfl,hj⟩:=freshN_get e1
    rw [hb] at e3
    subst e3
    have hns : r.ns[j]? = some b:=by simpa using e2
    obtain ⟨l,h1,h2,h3⟩:=he.news j b hns
    exact ⟨l,h1,h2,.inl ⟨j,rfl,hns,h3⟩⟩
  · rw [hb] at e2
    rcases updL_get wr r.ws h n he.wrs with ⟨j,c,f1,f2,f3⟩ | ⟨f1,f2⟩
    · rw [← e2] at f3
      subst f3
      obtain ⟨b0,l,h1,h2,h3,h4⟩:=he.olds j n b f1 f2
      obtain ⟨l',hl',hok⟩:=hm.ok n b0 h1
      rw [h2] at hl'
      cases hl'
      refine ⟨l,he.ext _ _ h2,h3,.inr ⟨b0,h1,h2,hok,fun x hx=>(h4 x hx).imp Blk.uses_of_excl id,fun x hx=>h4 x (Blk.uses_of_excl hx),fun k hk hn=>?_⟩⟩
      have hjk : j = k:=nodup_idx he.wrs f1 hk
      subst hjk
      rw [f2] at hn
      cases hn
    · rw [f2] at e2
      obtain ⟨l,hl,hok⟩:=hm.ok n b e2.symm
      have hnw : n ∉ wr:=fun hmem=>by
        obtain ⟨j,hj⟩:=List.getElem?_of_mem hmem
        have hjl : j < wr.length:=(List.getElem?_eq_some_iff.1 hj).1
        exact f1 j _ hj (List.getElem?_eq_getElem (by rw [he.wsl];exact hjl))
      have hkeep : ∀ x,b.uses w l x → w'.heap[x]? = w.heap[x]?:=fun x hx=>he.keep x (Blk.uses_lt hok hx) (fun m c k hmw hc hk hex=>hm.apart m n c b k l x (fun e=>hnw (e ▸ hmw)) hc e2.symm hk hl hex hx) fun o=>hm.zap n b l x o e2.symm hl hx
      exact ⟨l,he.ext _ _ hl,Blk.ok_world (Blk.ok_ext he.ext hok) he.size hkeep,.inr ⟨b,e2.symm,hl,hok,fun x h=>.inl ((Blk.uses_world hkeep x).1.1 h),fun x h=>.inl ((Blk.uses_world hkeep x).2.1 h),fun k hk=>absurd (List.mem_of_getElem? hk) hnw⟩⟩
theorem applyH_zap {μ μ' : Mu} {h : Nat → Option Blk} {w w' : World} {base : Nat} {wr : List Nat} {r : Res} {v : Value} (hm : HeapM μ h w) (hf : ∀ n ∈ freshN base,μ n = none)
    (he : Eff μ μ' h w base wr r v w') {n : Nat} {b : Blk} {l : Loc} {x : Nat} (o : Nat) (hb : applyH h base wr r n = some b) (hl : μ' n = some l) (hx : b.uses w' l x) : μ'.sig x o = none:=by
  unfold applyH at hb
  rcases updL_get (freshN base) (r.ns.map some) (updL h wr r.ws) n (freshN_nodup base) with ⟨j,c,e1,e2,e3⟩ | ⟨e1,e2⟩
  · obtain ⟨rfl,hj⟩:=freshN_get e1
    rw [hb] at e3
    subst e3
    exact he.znew j b l x o (by simpa using e2) hl hx
  · rw [hb] at e2
    rcases updL_get wr r.ws h n he.wrs with ⟨j,c,f1,f2,f3⟩ | ⟨f1,f2⟩
    · rw [← e2] at f3
      subst f3
      obtain ⟨b0,l0,h1,h2,h3,h4⟩:=he.olds j n b f1 f2
      have h5:=he.ext _ _ h2
      rw [hl] at h5;cases h5
      exact he.zold j n b l x o f1 f2 h2 hx
    · rw [f2] at e2
      obtain ⟨l0,hl0,hok⟩:=hm.ok n b e2.symm
      have h5:=he.ext _ _ hl0
      rw [hl] at h5;cases h5
      have hnw : n ∉ wr:=fun hmem=>by
        obtain ⟨j,hj⟩:=List.getElem?_of_mem hmem
        have hjl : j < wr.length:=(List.getElem?_eq_some_iff.1 hj).1
        exact f1 j _ hj (List.getElem?_eq_getElem (by rw [he.wsl];exact hjl))
      have hkeep : ∀ x,b.uses w l x → w'.heap[x]? = w.heap[x]?:=fun x hx=>he.keep x (Blk.uses_lt hok hx) (fun m c k hmw hc hk hex=>hm.apart m n c b k l x (fun e=>hnw (e ▸ hmw)) hc e2.symm hk hl0 hex hx) fun o=>hm.zap n b l x o e2.symm hl0 hx
      have hx':=(Blk.uses_world hkeep x).1.1 hx
      cases hs : μ'.sig x o with
      | none=>rfl
      | some c=>
        rcases he.zgrow x o c hs with ⟨o',c',g⟩ | g | ⟨k,p,q,m,a1,a2,a3,a4,a5⟩
        · rw [hm.zap n b l x o' e2.symm hl0 hx'] at g;cases g
        · have:=Blk.uses_lt hok hx';omega
        · exact absurd hx' (hm.apart p n q b m l x (fun e=>hnw (e ▸ List.mem_of_getElem? a1)) a3 e2.symm a4 hl0 a5)
theorem HeapM.apply {μ μ' : Mu} {h : Nat → Option Blk} {w w' : World} {base : Nat} {wr : List Nat} {r : Res} {v : Value} (hm : HeapM μ h w) (hf : ∀ n ∈ freshN base,μ n = none)
    (he : Eff μ μ' h w base wr r v w') : HeapM μ' (applyH h base wr r) w':=by
  refine ⟨fun n b hb=>?_,fun n m b c l k x hne hb hc hl hk hx hu=>?_,he.zone,fun n b l x o hb hl hx=>applyH_zap hm hf he o hb hl hx⟩
  · obtain ⟨l,h1,h2,_⟩:=applyH_cases hm hf he hb
    exact ⟨l,h1,h2⟩
  · obtain ⟨l',h1,_,h2⟩:=applyH_cases hm hf he hb
    obtain ⟨k',g1,_,g2⟩:=applyH_cases hm hf he hc
    rw [hl] at h1;cases h1
    rw [hk] at g1;cases g1
    rcases h2 with ⟨j,rfl,hj,hj2⟩ | ⟨b0,hb0,hl0,hok0,hu0,hx0,hnc0⟩
    · rcases g2 with ⟨i,rfl,hi,hi2⟩ | ⟨c0,hc0,hk0,hok1,hu1,hx1,hnc1⟩
      · exact he.newsApart j i b c l k x (fun e=>hne (by rw [e])) hj hi hl hk hx hu
      · rcases hu1 x hu with hcu | ⟨_,_,hns⟩
        · rcases hj2 x (Blk.uses_of_excl hx) with hge | ⟨p,pn,pc,pm,a1,a2,a3,a4,a5⟩
          · have:=Blk.uses_lt hok1 hcu;omega
          · exact hm.apart pn m pc c0 pm k x (fun e=>hnc1 p (e ▸ a1) a2) a3 hc0 a4 hk0 a5 hcu
        · rw [hns] at hj;simp at hj
    · rcases g2 with ⟨i,rfl,hi,hi2⟩ | ⟨c0,hc0,hk0,hok1,hu1,hx1,hnc1⟩
      · rcases hx0 x hx with hbx | ⟨_,_,hns⟩
        · rcases hi2 x hu with hge | ⟨p,pn,pc,pm,a1,a2,a3,a4,a5⟩
          · have:=Blk.uses_lt hok0 (Blk.uses_of_excl hbx);omega
          · exact hm.apart pn n pc b0 pm l x (fun e=>hnc0 p (e ▸ a1) a2) a3 hb0 a4 hl0 a5 (Blk.uses_of_excl hbx)
        · rw [hns] at hi;simp at hi
      · rcases hx0 x hx with hbx | ⟨hbx,hwn,_⟩
        · rcases hu1 x hu with hcu | ⟨hcu,_,_⟩
          · exact hm.apart n m b0 c0 l k x hne hb0 hc0 hl0 hk0 hbx hcu
          · have:=Blk.uses_lt hok0 (Blk.uses_of_excl hbx);omega
        · rcases hu1 x hu with hcu | ⟨hcu,hwm,_⟩
          · have:=Blk.uses_lt hok1 hcu;omega
          · rw [hwn] at hwm
            exact hne (by simpa using hwm)
structure Fr (w0 : World) (I : Nat → Prop) (w : World) : Prop where
  os : w.os = w0.os
  tape : w.tape = w0.tape
  output : w.output = w0.output
  size : w0.heap.size ≤ w.heap.size
  block : ∀ x,x < w0.heap.size → ¬ I x → w.heap[x]? = w0.heap[x]?
structure Models (w0 : World) (I : Nat → Prop) (μ : Mu) (s : St) (a : Act) (w : World) : Prop where
  size : a.tmps.size = s.slots.length
  slots : ∀ (i : Nat) (x : SV),s.slots[i]? = some x → ∃ v,a.tmps[i]? = some v ∧ x.ok μ v
  defers : a.defers = []
  hm : HeapM μ s.heap w
  mine : ∀ n b l x,s.heap n = some b → μ n = some l → b.excl w l x → I x ∨ w0.heap.size ≤ x
  zmine : ∀ x o c,μ.sig x o = some c → I x ∨ w0.heap.size ≤ x
  fr : Fr w0 I w
theorem Models.apply {w0 : World} {I : Nat → Prop} {μ μ' : Mu} {s : St} {a : Act} {w w' : World} {base : Nat} {wr : List Nat} {r : Res} {v : Value} (dst : Option Nat) (hm : Models w0 I μ s a w)
    (hf : ∀ n ∈ freshN base,μ n = none) (he : Eff μ μ' s.heap w base wr r v w') : Models w0 I μ' (s.apply dst base wr r) (a.put dst v) w' where
  size:=by
    cases dst with
    | none=>exact hm.size
    | some d=>simpa [St.apply,putS,Act.put] using hm.size
  slots:=fun i x hx=>by
    cases dst with
    | none=>
      obtain ⟨u,hu,hok⟩:=hm.slots i x hx
      exact ⟨u,hu,SV.ok_ext he.ext hok⟩
    | some d=>
      simp only [St.apply,putS] at hx
      by_cases hd : d = i
      · subst hd
        have hlt : d < s.slots.length:=by
          have:=(List.getElem?_eq_some_iff.1 hx).1
          simpa using this
        simp [hlt] at hx
        subst hx
        exact ⟨v,by simp [Act.put,hm.size,hlt],he.val⟩
      · rw [List.getElem?_set_ne hd] at hx
        obtain ⟨u,hu,hok⟩:=hm.slots i x hx
        exact ⟨u,by simp [Act.put,Array.getElem?_setIfInBounds_ne hd,hu],SV.ok_ext he.ext hok⟩
  defers:=by cases dst <;> exact hm.defers
  hm:=hm.hm.apply hf he
  mine:=fun n b l x hb hl hx=>by
    obtain ⟨l',h1,_,h2⟩:=applyH_cases hm.hm hf he hb
    rw [hl] at h1;cases h1
    rcases h2 with ⟨j,rfl,hj,hj2⟩ | ⟨b0,hb0,hl0,hok0,hu0,hx0,hnc0⟩
    · rcases hj2 x (Blk.uses_of_excl hx) with hge | ⟨p,pn,pc,pm,a1,a2,a3,a4,a5⟩
      · exact .inr (Nat.le_trans hm.fr.size hge)
      · exact hm.mine pn pc pm x a3 a4 a5
    · rcases hx0 x hx with h | ⟨h,_,_⟩
      · exact hm.mine n b0 l x hb0 hl0 h
      · exact .inr (Nat.le_trans hm.fr.size h)
  zmine:=fun x o c hs=>by
    rcases he.zgrow x o c hs with ⟨o',c',g⟩ | g | ⟨p,pn,pc,pm,a1,a2,a3,a4,a5⟩
    · exact hm.zmine x o' c' g
    · exact .inr (Nat.le_trans hm.fr.size g)
    · exact hm.mine pn pc pm x a3 a4 a5
  fr:=
    { os:=he.os.trans hm.fr.os,tape:=he.tape.trans hm.fr.tape,output:=he.output.trans hm.fr.output,size:=Nat.le_trans hm.fr.size he.size
      block:=fun x hx hi=>by
        refine (he.keep x (Nat.lt_of_lt_of_le hx hm.fr.size) (fun n b l _ hb hl hex=>?_) fun o=>?_).trans (hm.fr.block x hx hi)
        · rcases hm.mine n b l x hb hl hex with h | h
          · exact hi h
          · omega
        · cases hs : μ.sig x o with
          | none=>rfl
          | some c=>
            rcases hm.zmine x o c hs with h | h
            · exact (hi h).elim
            · omega }
def fN (n : Nat) (K : Nat → Prop) : Prop:=
  match n with
  | 0=>K 0
  | m + 1=>K (m + 1)
def fI (n : Int) (K : Int → Prop) : Prop:=
  match n with
  | .ofNat m=>fN m fun m=>K (.ofNat m)
  | .negSucc m=>fN m fun m=>K (.negSucc m)
def fKd (k : IntKind) (K : IntKind → Prop) : Prop:=
  match k with
  | .i8=>K .i8
  | .i16=>K .i16
  | .i32=>K .i32
  | .i64=>K .i64
  | .u8=>K .u8
  | .u16=>K .u16
  | .u32=>K .u32
  | .u64=>K .u64
def fBo (b : Bool) (K : Bool → Prop) : Prop:=
  match b with
  | true=>K true
  | false=>K false
def fC (c : SC) (K : SC → Prop) : Prop:=
  match c with
  | .num k n=>fKd k fun k=>fI n fun n=>K (.num k n)
  | .int k n=>fKd k fun k=>K (.int k n)
  | .tru b=>fBo b fun b=>K (.tru b)
  | .boo b=>K (.boo b)
  | .str z=>K (.str z)
  | .nil=>K .nil
  | .ptr b i e j=>fN b fun b=>fN e fun e=>K (.ptr b i e j)
  | .sli b i e j n c q=>fN b fun b=>fN e fun e=>fBo q fun q=>K (.sli b i e j n c q)
  | .own b n c q=>fN b fun b=>fBo q fun q=>K (.own b n c q)
  | .nos=>K .nos
  | .fn f=>K (.fn f)
  | .zp L=>K (.zp L)
  | .zs E n c q=>fBo q fun q=>K (.zs E n c q)
  | .zpa b o L=>K (.zpa b o L)
  | .zsa b o E n c=>K (.zsa b o E n c)
  | .clo f cs=>K (.clo f cs)
def fL : List SC → (List SC → Prop) → Prop
  | [],K=>K []
  | c :: cs,K=>fC c fun c=>fL cs fun cs=>K (c :: cs)
def fS1 (x : S1) (K : S1 → Prop) : Prop:=
  match x with
  | .c x=>fC x fun x=>K (.c x)
  | .a cs=>fL cs fun cs=>K (.a cs)
def fT : List S1 → (List S1 → Prop) → Prop
  | [],K=>K []
  | c :: cs,K=>fS1 c fun c=>fT cs fun cs=>K (c :: cs)
def fV (x : SV) (K : SV → Prop) : Prop:=
  match x with
  | .s x=>fS1 x fun x=>K (.s x)
  | .t xs=>fT xs fun xs=>K (.t xs)
  | .u=>K .u
def fVs : List SV → (List SV → Prop) → Prop
  | [],K=>K []
  | c :: cs,K=>fV c fun c=>fVs cs fun cs=>K (c :: cs)
def fSp : List SV → (List SV → Prop) → Prop
  | [],K=>K []
  | c :: cs,K=>fSp cs fun cs=>K (c :: cs)
def fSi : List Int → (List Int → Prop) → Prop
  | [],K=>K []
  | c :: cs,K=>fSi cs fun cs=>K (c :: cs)
def fOL (l : OL) (K : OL → Prop) : Prop:=
  match l with
  | .ints k l=>fKd k fun k=>K (.ints k l)
  | .strs l=>K (.strs l)
  | .raws l=>K (.raws l)
def fBk (b : Blk) (K : Blk → Prop) : Prop:=
  match b with
  | .obj t hd l=>fN t fun t=>fSi hd fun hd=>fOL l fun l=>K (.obj t hd l)
  | .cells t cs=>fN t fun t=>fL cs fun cs=>K (.cells t cs)
  | .view e n f=>fN e fun e=>K (.view e n f)
  | .own t e n f=>fN t fun t=>fN e fun e=>K (.own t e n f)
  | .ints k l=>fKd k fun k=>K (.ints k l)
  | .oints k l=>fKd k fun k=>K (.oints k l)
def fBO (b : Option Blk) (K : Option Blk → Prop) : Prop:=
  match b with
  | none=>K none
  | some b=>fBk b fun b=>K (some b)
def fBs : List Blk → (List Blk → Prop) → Prop
  | [],K=>K []
  | c :: cs,K=>fBk c fun c=>fBs cs fun cs=>K (c :: cs)
def fBOs : List (Option Blk) → (List (Option Blk) → Prop) → Prop
  | [],K=>K []
  | c :: cs,K=>fBO c fun c=>fBOs cs fun cs=>K (c :: cs)
def fNs : List Nat → (List Nat → Prop) → Prop
  | [],K=>K []
  | c :: cs,K=>fN c fun c=>fNs cs fun cs=>K (c :: cs)
theorem fN_eq (n : Nat) (K : Nat → Prop) : fN n K = K n:=by cases n <;> rfl
theorem fI_eq (n : Int) (K : Int → Prop) : fI n K = K n:=by cases n <;> simp only [fI,fN_eq]
theorem fKd_eq (k : IntKind) (K : IntKind → Prop) : fKd k K = K k:=by cases k <;> rfl
theorem fBo_eq (b : Bool) (K : Bool → Prop) : fBo b K = K b:=by cases b <;> rfl
theorem fC_eq (c : SC) (K : SC → Prop) : fC c K = K c:=by cases c <;> simp only [fC,fKd_eq,fI_eq,fBo_eq,fN_eq]
theorem fL_eq : ∀ (cs : List SC) (K : List SC → Prop),fL cs K = K cs
  | [],_=>rfl
  | c :: cs,K=>by simp only [fL,fC_eq,fL_eq cs]
theorem fS1_eq (x : S1) (K : S1 → Prop) : fS1 x K = K x:=by cases x <;> simp only [fS1,fC_eq,fL_eq]
theorem fT_eq : ∀ (cs : List S1) (K : List S1 → Prop),fT cs K = K cs
  | [],_=>rfl
  | c :: cs,K=>by simp only [fT,fS1_eq,fT_eq cs]
theorem fV_eq (x : SV) (K : SV → Prop) : fV x K = K x:=by cases x <;> simp only [fV,fS1_eq,fT_eq]
theorem fVs_eq : ∀ (cs : List SV) (K : List SV → Prop),fVs cs K = K cs
  | [],_=>rfl
  | c :: cs,K=>by simp only [fVs,fV_eq,fVs_eq cs]
theorem fSp_eq : ∀ (cs : List SV) (K : List SV → Prop),fSp cs K = K cs
  | [],_=>rfl
  | c :: cs,K=>by simp only [fSp,fSp_eq cs]
theorem fSi_eq : ∀ (cs : List Int) (K : List Int → Prop),fSi cs K = K cs
  | [],_=>rfl
  | c :: cs,K=>by simp only [fSi,fSi_eq cs]
theorem fOL_eq (l : OL) (K : OL → Prop) : fOL l K = K l:=by cases l <;> simp only [fOL,fKd_eq]
theorem fBk_eq (b : Blk) (K : Blk → Prop) : fBk b K = K b:=by cases b <;> simp only [fBk,fN_eq,fL_eq,fKd_eq,fSi_eq,fOL_eq]
theorem fBO_eq (b : Option Blk) (K : Option Blk → Prop) : fBO b K = K b:=by cases b <;> simp only [fBO,fBk_eq]
theorem fBs_eq : ∀ (cs : List Blk) (K : List Blk → Prop),fBs cs K = K cs
  | [],_=>rfl
  | c :: cs,K=>by simp only [fBs,fBk_eq,fBs_eq cs]
theorem fBOs_eq : ∀ (cs : List (Option Blk)) (K : List (Option Blk) → Prop),fBOs cs K = K cs
  | [],_=>rfl
  | c :: cs,K=>by simp only [fBOs,fBO_eq,fBOs_eq cs]
theorem fNs_eq : ∀ (cs : List Nat) (K : List Nat → Prop),fNs cs K = K cs
  | [],_=>rfl
  | c :: cs,K=>by simp only [fNs,fN_eq,fNs_eq cs]
def updK : (Nat → Option Blk) → List Nat → List (Option Blk) → ((Nat → Option Blk) → Prop) → Prop
  | h,n :: ns,b :: bs,K=>updK (upd h n b) ns bs K
  | h,_,_,K=>K h
theorem updK_eq : ∀ (ns : List Nat) (bs : List (Option Blk)) (h : Nat → Option Blk) (K : (Nat → Option Blk) → Prop),updK h ns bs K = K (updL h ns bs)
  | [],_,_,_=>rfl
  | n :: ns,[],_,_=>rfl
  | n :: ns,b :: bs,h,K=>by simp only [updK,updL,updK_eq ns bs]
def someL : List Blk → List (Option Blk)
  | []=>[]
  | b :: bs=>some b :: someL bs
theorem someL_eq : ∀ bs : List Blk,someL bs = bs.map some
  | []=>rfl
  | b :: bs=>by simp only [someL,List.map_cons,someL_eq bs]
def St.applyK (s : St) (dst : Option Nat) (base : Nat) (wr : List Nat) (r : Res) (K : St → Prop) : Prop:=
  fV r.v fun v=>fSp (putS s.slots dst v) fun sl=>fNs wr fun wr=>fBOs r.ws fun ws=>fBs r.ns fun ns=>
    updK s.heap wr ws fun h=>fNs (freshN base) fun fr=>updK h fr (someL ns) fun h=>K ⟨sl,h,s.next⟩
theorem St.applyK_eq (s : St) (dst : Option Nat) (base : Nat) (wr : List Nat) (r : Res) (K : St → Prop) : s.applyK dst base wr r K = K (s.apply dst base wr r):=by
  simp only [St.applyK,fV_eq,fSp_eq,fNs_eq,fBOs_eq,fBs_eq,updK_eq,someL_eq]
  rfl
def only (names : List Nat) (h : Nat → Option Blk) : Nat → Option Blk:=fun n=>if names.contains n then h n else none
def fH (h : Nat → Option Blk) : List Nat → ((Nat → Option Blk) → Prop) → Prop
  | [],K=>K fun _=>none
  | n :: ns,K=>fN n fun n=>fBO (h n) fun b=>fH h ns fun g=>K (upd g n b)
theorem fH_eq (h : Nat → Option Blk) : ∀ (ns : List Nat) (K : (Nat → Option Blk) → Prop),fH h ns K = K (only ns h)
  | [],K=>by
    simp only [fH]
    congr 1
  | n :: ns,K=>by
    simp only [fH,fN_eq,fBO_eq,fH_eq h ns]
    congr 1
    funext m
    by_cases hm : m = n
    · subst hm;simp [upd,only]
    · simp [upd,only,hm]
end
end Zx
