/- A part of the proof: lemmas. No condition of its own. -/
import Derived.Deep.AppendSrc
import Derived.Great.BuildSlice
import Derived.Laws.BytesString
import Derived.Laws.MakeOwn
import Derived.Test.YtglcgbhhkjebbaaGreatK03
set_option linter.unusedVariables false
set_option linter.unusedSimpArgs false
namespace Zx
noncomputable section
open Go
def noMu' : Mu:=⟨fun _=>none,fun _ _=>none⟩
def valsI (k : IntKind) (L : List Int) : List Value:=L.map (Value.int k)
theorem valsI_len (k : IntKind) (L : List Int) : (valsI k L).length = L.length:=by simp [valsI]
theorem valsI_get (k : IntKind) (L : List Int) (i : Nat) (h : i < L.length) : (valsI k L)[i]? = some (.int k (L.getD i 0)):=by
 simp [valsI,List.getD_eq_getElem?_getD,h]
theorem valsI_one (k : IntKind) (L : List Int) : ∀ u ∈ valsI k L,u.oneCell' = true:=fun u hu=>by
 simp [valsI] at hu
 obtain ⟨x,_,rfl⟩:=hu
 rfl
theorem src_of {P : Program} {w : World} {tx el : TypeId} {k : IntKind} {M : List Int} {a : Option Addr} {c : Nat} (ht : P.underlying tx = some (.slice el))
  (h : M.length ≠ 0 -> ∃ b o,a = some ⟨b,o,none⟩ /\ ∀ j,j < M.length -> w.cell? ⟨b,o + j,none⟩ = some (.int k (M.getD j 0))) : Src P 1 tx (.slice a M.length c) M.length (valsI k M) w:=by
 have cell : ∀ w' : World,(∀ x,w'.cell? x = w.cell? x) -> (Builtin.firstCells 1 M.length (.slice a M.length c)).run P w' = .ok (valsI k M).toArray w':=fun w' hw=>by
  by_cases h0 : M.length = 0
  ·have hM : M = []:=List.eq_nil_of_length_eq_zero h0
   subst hM
   cases a with
   | none=>exact run_firstCells_none w' 1 0 0 c
   | some a=>exact run_firstCells_some w' 1 0 a 0 c [] (by simp) (by intro _ _ h';simp at h')
  ·obtain ⟨b,o,rfl,hc⟩:=h h0
   refine run_firstCells_some w' 1 M.length ⟨b,o,none⟩ M.length c (valsI k M) (by simp [valsI_len]) fun j u hu=>?_
   have hj : j < M.length:=by
    have:=(List.getElem?_eq_some_iff.1 hu).1
    simpa [valsI_len] using this
   rw [valsI_get k M j hj] at hu
   cases hu
   rw [Addr.add_lit',hw]
   exact hc j hj
 exact { kind:=.inl ⟨el,ht⟩,len:=fun w'=>by simp [Builtin.lenOf],cells:=cell w fun _=>rfl,cellsD:=cell w.drew fun _=>rfl,newsLen:=by simp [valsI_len],one:=valsI_one k M }
structure Frame (w w' : World) (g : Option Nat) : Prop where
 os : w'.os = w.os
 tape : w'.tape = w.tape
 output : w'.output = w.output
 size : w.heap.size <= w'.heap.size
 keep : ∀ x,x < w.heap.size -> g ≠ some x -> w'.heap[x]? = w.heap[x]?
theorem append_core {P : Program} {w : World} {t tx ty el : TypeId} {inf : TypeInfo} {z : Value} (ht : P.underlying t = some (.slice el)) (hi : P.info? el = some inf) (hz : inf.zero = some z) (hz1 : z.cells.size = 1) (h1 : inf.size = 1)
  {ao : Option Addr} {g o n c : Nat} {cur : Array Value} {tc : TypeId} {xs news : List Value} {x : Value} {m : Nat} (hn : xs.length = n) (hnc : n <= c) (hcm : c <= maxLen)
  (hrow : 0 < c -> ao = some ⟨g,o,none⟩ /\ w.heap[g]? = some (.cells cur tc (0,0)) /\ o + c <= cur.size /\ ∀ i,i < n -> cur[o + i]? = xs[i]?)
  (hs : Src P 1 tx x m news w) (hb : (n + m) * inf.bytes <= 140737488355328) (hmax : n + m <= maxLen) :
  ∃ ao' g' o' c' w',(Builtin.append_ #[t,tx] ty #[.slice ao n c,x]).run P w = .ok (.slice ao' (n + m) c') w' /\ n + m <= c' /\ c' <= maxLen ∧
   (0 < c' -> ao' = some ⟨g',o',none⟩ /\ (∃ cur' tt,w'.heap[g']? = some (.cells cur' tt (0,0)) /\ o' + c' <= cur'.size /\ ∀ i,i < n + m -> cur'[o' + i]? = (xs ++ news)[i]?) /\ ((0 < c /\ g' = g) \/ w.heap.size <= g')) ∧
   Frame w w' (if 0 < c then some g else none):=by
 have hml : news.length = m:=by have:=hs.newsLen;omega
 by_cases hroom : n + m <= c
 ·by_cases hc0 : 0 < c
  ·obtain ⟨rfl,hg,hsz,hat⟩:=hrow hc0
   have hst:=run_storeCells_at P g (o + n) tc news 0 cur w hg (by omega) hs.one
   refine ⟨some ⟨g,o,none⟩,g,o,c,w.setRow g (cur.toList.take (o + n + 0) ++ news ++ cur.toList.drop (o + n + 0 + news.length)).toArray, ?_,hroom,hcm,fun _=>⟨rfl,⟨_,tc,setRow_heap w g _ _ tc _ hg, ?_, ?_⟩,.inl ⟨hc0,rfl⟩⟩,⟨rfl,rfl,rfl,by simp [World.setRow],fun y hy hne=>setRow_keep w g y _ fun e=>hne (by rw [if_pos hc0,e])⟩⟩
   ·have hc1:=hs.cells
    rcases hs.kind with ⟨e',hk⟩ | hk <;> simp [Builtin.append_,run_underlying ht,run_underlying hk,Go.sizeOf,typeInfo,hi,h1,hs.len,hroom,hc1,Addr.add_lit,hst]
   ·simp;omega
   ·intro i hi'
    simp only [List.getElem?_toArray,Nat.add_zero]
    rw [splice_get _ _ _ _ (by simp;omega)]
    by_cases hin : i < n
    ·rw [if_pos (by omega),List.getElem?_append_left (by omega)]
     simpa using hat i hin
    ·rw [if_neg (by omega),if_pos (by omega),List.getElem?_append_right (by omega)]
     congr 1
     omega
  ·have hn0 : n = 0:=by omega
   have hm0 : m = 0:=by omega
   have hcz : c = 0:=by omega
   subst hn0;subst hm0;subst hcz
   have hnil : news = []:=List.eq_nil_of_length_eq_zero hml
   subst hnil
   refine ⟨ao,g,o,0,w, ?_,Nat.zero_le _,Nat.zero_le _,fun h=>by omega,⟨rfl,rfl,rfl,Nat.le_refl _,fun _ _ _=>rfl⟩⟩
   have hc1:=hs.cells
   rcases hs.kind with ⟨e',hk⟩ | hk <;> cases ao <;> simp [Builtin.append_,run_underlying ht,run_underlying hk,Go.sizeOf,typeInfo,hi,h1,hs.len,hc1,storeCells]
 ·have hg : c < n + m:=by omega
  have hold : (Builtin.firstCells inf.size n (.slice ao n c)).run P w.drew = .ok xs.toArray w.drew:=by
   rw [h1]
   by_cases hc0 : 0 < c
   ·obtain ⟨rfl,hg',hsz,hat⟩:=hrow hc0
    refine run_firstCells_some w.drew 1 n ⟨g,o,none⟩ n c xs (by omega) fun j u hu=>?_
    have hj : j < n:=by
     have:=(List.getElem?_eq_some_iff.1 hu).1
     omega
    rw [Addr.add_lit']
    show w.cell? ⟨g,o + j,none⟩ = some u
    simp only [World.cell?,hg']
    simp only [Option.isSome_none,Bool.false_eq_true,if_false]
    rw [hat j hj,hu]
   ·have hn0 : n = 0:=by omega
    subst hn0
    have hx0 : xs = []:=List.eq_nil_of_length_eq_zero hn
    subst hx0
    cases ao with
    | none=>exact run_firstCells_none w.drew 1 0 0 c
    | some a=>exact run_firstCells_some w.drew 1 0 a 0 c [] (by simp) (by intro _ _ h';simp at h')
  have hs' : Src P inf.size tx x m news w:=by rw [h1];exact hs
  have hsmall : ((n + m : Nat) : Int) <= 9223372036854775807:=by simp only [maxLen] at hmax;omega
  have hr:=run_append_grow_src (P:=P) w t tx ty el inf z ht hi hz ao n c xs hold x m news hs' hg hsmall (growslice_fits hg hb)
  have hge:=grownCap_ge w (n + m) c el
  refine ⟨_,w.heap.size,0,_,_,hr,hge,grownCap_le_maxLen w (n + m) c el hmax,fun _=>⟨rfl,⟨_,_,heap_alloc_new w.drew _, ?_, ?_⟩,.inr (Nat.le_refl _)⟩,⟨rfl,rfl,rfl,by simp,fun y hy _=>by first | exact heap_alloc_old w.drew _ y hy | exact heap_alloc_old w.drew _ hy⟩⟩
  ·simp only [Array.size_append,List.size_toArray,size_zeroCells,hz1,List.length_append]
   omega
  ·intro i hi'
   rw [Nat.zero_add,Array.getElem?_append_left (by simp;omega)]
   simp
def intsC (k : IntKind) : List SC -> Option (List Int)
 | []=>some []
 | c :: cs=>match intC k c,intsC k cs with
  | some x,some xs=>some (x :: xs)
  | _,_=>none
theorem intsC_ok {μ : Mu} {k : IntKind} : ∀ {cs : List SC} {xs : List Int} {vs : List Value},intsC k cs = some xs -> All2 (SC.ok μ) cs vs -> vs = valsI k xs
 | [],xs,[],h,_=>by cases h;rfl
 | c :: cs,xs,v :: vs,h,ha=>by
  simp only [intsC] at h
  split at h
  ·rename_i x ys h1 h2
   cases h
   rw [intC_ok h1 ha.1,intsC_ok h2 ha.2]
   rfl
  ·cases h
 | [],_,_ :: _,_,ha=>ha.elim
 | _ :: _,_,[],_,ha=>ha.elim
def dstN : SV -> List Nat
 | .s (.c (.own b _ _ _))=>[b]
 | .s (.c (.sli b _ _ _ _ _ _))=>[b]
 | _=>[]
def dstL (k : IntKind) (x : SV) (bl : Option (Option Blk)) : Option (List Int):=
 match x with
 | .s (.c .nos)=>some []
 | .s (.c (.own _ _ _ _))=>match bl with
  | some (some (.oints k' L))=>if k' = k then some L else none
  | _=>none
 | .s (.c (.sli _ _ e j n c q))=>match bl with
  | some (some (.cells _ cs))=>if e == 0 && (q && decide (j + c <= cs.length)) then intsC k ((cs.drop j).take n) else none
  | _=>none
 | _=>none
def srcL (k : IntKind) (x : SV) (bl : Option (Option Blk)) : Option (Option Prop × List Int):=
 match x with
 | .s (.c .nos)=>some (none,[])
 | .s (.c (.own _ _ _ _))=>match bl with
  | some (some (.oints k' L))=>if k' = k then some (none,L) else none
  | _=>none
 | .s (.c (.sli _ i e j n c q))=>match bl with
  | some (some (.cells _ cs))=>if e == 0 && (q && decide (j + n <= cs.length)) then match intsC k ((cs.drop j).take n) with
    | some M=>some (none,M)
    | none=>none
   else none
  | some (some (.ints k' L))=>if k' = k /\ e = 1 /\ j = 0 then some (some (i + n <= L.length),(L.drop i).take n) else none
  | some (some (.oints k' L))=>if k' = k /\ e = 1 /\ j = 0 then some (some (i + n <= L.length),(L.drop i).take n) else none
  | _=>none
 | _=>none
def one1 (z : Option Value) : Bool:=
 match z with
 | some z=>z.cells.size == 1
 | none=>false
def headO {α : Type} : List α -> Option α
 | []=>none
 | x :: _=>some x
def appOut (base : Nat) (inf : TypeInfo) (k : IntKind) (ws : List (Option Blk)) (L M : List Int) (p : Option Prop) : Out Res:=
 oAst p (.ast ((L ++ M).length * inf.bytes <= 140737488355328) (.all (fun c'=>(L ++ M).length <= c') ⟨_,Nat.le_refl _⟩ fun c'=>.ret ⟨one (.own base (L ++ M).length c' false),ws,[.oints k (L ++ M)]⟩))
def appendReq (P : Program) (base : Nat) (t tx : TypeId) (x y : SV) : Req:=
 match P.underlying t,P.underlying tx with
 | some (.slice el),some (.slice _)=>match P.info? el,P.underlying el with
  | some inf,some (.int k)=>
   if inf.size == 1 && (one1 inf.zero && decide (0 < inf.bytes)) then
    match dstN x,dstN y with
    | [],[]=>⟨[],[],fun _=>match dstL k x none,srcL k y none with
     | some L,some (p,M)=>appOut base inf k [] L M p
     | _,_=>.fail⟩
    | [],[b]=>⟨[b],[],fun bl=>match dstL k x none,srcL k y (headO bl) with
     | some L,some (p,M)=>appOut base inf k [] L M p
     | _,_=>.fail⟩
    | [a],[]=>⟨[],[a],fun bl=>match dstL k x (headO bl),srcL k y none with
     | some L,some (p,M)=>appOut base inf k [none] L M p
     | _,_=>.fail⟩
    | [a],[b]=>⟨[b],[a],fun bl=>match bl with
     | [bb,ab]=>match dstL k x (some ab),srcL k y (some bb) with
      | some L,some (p,M)=>appOut base inf k [none] L M p
      | _,_=>.fail
     | _=>.fail⟩
    | _,_=>Req.fail
   else Req.fail
  | _,_=>Req.fail
 | _,_=>Req.fail
def DstOk (μ : Mu) (h : Nat -> Option Blk) (w : World) (k : IntKind) (names : List Nat) (u : Value) (L : List Int) : Prop:=
 ∃ ao g o c cur tc,u = .slice ao L.length c /\ L.length <= c /\ c <= maxLen /\ (0 < c -> ao = some ⟨g,o,none⟩ /\ w.heap[g]? = some (.cells cur tc (0,0)) /\ o + c <= cur.size /\ (∀ i,i < L.length -> cur[o + i]? = (valsI k L)[i]?) ∧
  ∃ b bk l,names = [b] /\ h b = some bk /\ μ b = some l /\ bk.excl w l g)
theorem own_vals {μ : Mu} {w : World} {l : Loc} {tt : TypeId} {k : IntKind} {L : List Int} (h : ownOk μ w l tt 1 L.length (intsF k L)) :
  ∃ a c,l.hd = .slice a L.length c /\ L.length <= c /\ c <= maxLen /\ (0 < c -> a = some ⟨l.b,l.off,none⟩ /\ ∃ cur : Array Value,w.heap[l.b]? = some (.cells cur tt (0,0)) /\ l.off + c <= cur.size /\ ∀ x,x < L.length -> cur[l.off + x]? = some (.int k (L.getD x 0))):=by
 obtain ⟨a,c,xs,h1,h2,h3,h4,h5,h6⟩:=h
 refine ⟨a,c,h1,h2,h3,fun hc=>?_⟩
 obtain ⟨ha,cur,hcur,hsz,hat⟩:=h5 hc
 refine ⟨ha,cur,hcur,by simpa using hsz,fun x hx=>?_⟩
 rw [hat x (by simpa using hx)]
 obtain ⟨_,g⟩:=h6 x hx
 obtain ⟨v,hv,hok⟩:=g 0 _ rfl
 simp at hv
 rw [hv,show v = .int k (L.getD x 0) from hok]
theorem dst_ok {μ : Mu} {h : Nat -> Option Blk} {w : World} {k : IntKind} {x : SV} {u : Value} {L : List Int} (hm : HeapM μ h w) (hx : x.ok μ u) {bl : Option (Option Blk)} (hbl : bl = none \/ ∃ b,dstN x = [b] /\ bl = some (h b)) (hd : dstL k x bl = some L) : DstOk μ h w k (dstN x) u L:=by
 unfold dstL at hd
 split at hd
 ·cases hd
  obtain ⟨a,rfl⟩:=hx
  exact ⟨a,0,0,0,#[],0,rfl,Nat.le_refl _,Nat.zero_le _,fun h=>by omega⟩
 ·rename_i b n c q
  split at hd
  ·rename_i k' L'
   split at hd
   ·rename_i hk
    cases hd
    subst hk
    rcases hbl with hbl | ⟨b',hb',hbl⟩
    ·cases hbl
    ·simp [dstN] at hb'
     subst hb'
     have hb : h b = some (.oints k' L):=(Option.some.inj hbl).symm
     obtain ⟨l,a,hl,rfl,_⟩:=hx
     obtain ⟨l',hl',tt,hok⟩:=hm.ok b _ hb
     rw [hl] at hl';cases hl'
     obtain ⟨a',c',e1,e2,e3,e4⟩:=own_vals hok
     by_cases hc : 0 < c'
     ·obtain ⟨ha,cur,hcur,hsz,hat⟩:=e4 hc
      refine ⟨a',l.b,l.off,c',cur,tt,e1,e2,e3,fun _=>⟨ha,hcur,hsz,fun i hi=>by rw [hat i hi,valsI_get _ _ _ hi],b,_,l,rfl,hb,hl, ?_⟩⟩
      have : Value.noRow l.hd = false:=by
       rw [e1]
       cases c' with
       | zero=>omega
       | succ c=>rfl
      exact ⟨this,rfl⟩
     ·exact ⟨a',0,0,c',#[],0,e1,e2,e3,fun h=>absurd h hc⟩
   ·cases hd
  ·cases hd
 ·rename_i b i e j n c q
  split at hd
  ·rename_i t cs
   split at hd
   ·rename_i hcond
    simp at hcond
    obtain ⟨rfl,rfl,hle⟩:=hcond
    rcases hbl with hbl | ⟨b',hb',hbl⟩
    ·cases hbl
    ·simp [dstN] at hb'
     subst hb'
     have hb : h b = some (.cells t cs):=(Option.some.inj hbl).symm
     obtain ⟨l,a,hl,rfl,ha,hnc,hcm⟩:=hx
     obtain ⟨l',hl',h0,vs,hv,hall⟩:=hm.ok b _ hb
     rw [hl] at hl';cases hl'
     have hsub : All2 (SC.ok μ) ((cs.drop j).take n) ((vs.drop j).take n):=(hall.drop j).take n
     have hvals:=intsC_ok hd hsub
     have hlen : L.length = n:=by
      have h1:=congrArg List.length hvals
      have h2:=hall.len
      simp [valsI_len] at h1
      omega
     subst hlen
     refine ⟨a,l.b,j,c,vs.toArray,t,rfl,hnc,hcm,fun hc=>⟨?_,hv, ?_,fun i hi=>?_,b,_,l,rfl,hb,hl,rfl⟩⟩
     ·rw [ha hc,h0];simp
     ·have:=hall.len;simp;omega
     ·rw [← hvals]
      simp [List.getElem?_take,hi,List.getElem?_drop]
   ·cases hd
  ·cases hd
 ·cases hd
theorem src_ok {P : Program} {μ : Mu} {h : Nat -> Option Blk} {w : World} {k : IntKind} {tx el : TypeId} {x : SV} {u : Value} {p : Option Prop} {M : List Int} (ht : P.underlying tx = some (.slice el)) (hm : HeapM μ h w) (hx : x.ok μ u) {bl : Option (Option Blk)} (hbl : bl = none \/ ∃ b,dstN x = [b] /\ bl = some (h b)) (hd : srcL k x bl = some (p,M)) (hp : holds p) :
  Src P 1 tx u M.length (valsI k M) w:=by
 have sub : ∀ {b i n c : Nat} {l : Loc} {a : Option Addr} {L : List Int},i + n <= L.length -> (0 < c -> a = some ⟨l.b,l.off + (i * 1 + 0),none⟩) -> n <= c -> (∀ j,j < L.length -> w.cell? ⟨l.b,l.off + j,none⟩ = some (.int k (L.getD j 0))) -> Src P 1 tx (.slice a n c) ((L.drop i).take n).length (valsI k ((L.drop i).take n)) w:=by
  intro b i n c l a L hle ha hnc hcell
  have hlen : ((L.drop i).take n).length = n:=by simp;omega
  have:=src_of (P:=P) (w:=w) (k:=k) (M:=(L.drop i).take n) (a:=a) (c:=c) ht fun hne=>⟨l.b,l.off + i,by simpa using ha (by omega),fun j hj=>by
   have hc:=hcell (i + j) (by omega)
   rw [Nat.add_assoc,hc]
   congr 2
   simp only [List.getD_eq_getElem?_getD]
   rw [List.getElem?_take_of_lt (by omega),List.getElem?_drop]⟩
  rw [hlen] at this
  rw [hlen]
  exact this
 unfold srcL at hd
 split at hd
 ·cases hd
  obtain ⟨a,rfl⟩:=hx
  exact src_of (M:=[]) ht fun h=>absurd rfl h
 ·rename_i b n c q
  split at hd
  ·rename_i k' L'
   split at hd
   ·rename_i hk
    cases hd
    subst hk
    rcases hbl with hbl | ⟨b',hb',hbl⟩
    ·cases hbl
    ·simp [dstN] at hb'
     subst hb'
     have hb : h b = some (.oints k' M):=(Option.some.inj hbl).symm
     obtain ⟨l,a,hl,rfl,_⟩:=hx
     obtain ⟨l',hl',tt,hok⟩:=hm.ok b _ hb
     rw [hl] at hl';cases hl'
     obtain ⟨a',c',e1,e2,e3,e4⟩:=own_vals hok
     rw [e1]
     refine src_of ht fun hne=>?_
     obtain ⟨ha,cur,hcur,hsz,hat⟩:=e4 (by omega)
     refine ⟨l.b,l.off,ha,fun j hj=>?_⟩
     simp only [World.cell?,hcur]
     simp only [Option.isSome_none,Bool.false_eq_true,if_false]
     exact hat j hj
   ·cases hd
  ·cases hd
 ·rename_i b i e j n c q
  split at hd
  ·rename_i t cs
   split at hd
   ·rename_i hcond
    simp at hcond
    obtain ⟨rfl,rfl,hle⟩:=hcond
    split at hd
    ·rename_i M' hM
     cases hd
     rcases hbl with hbl | ⟨b',hb',hbl⟩
     ·cases hbl
     ·simp [dstN] at hb'
      subst hb'
      have hb : h b = some (.cells t cs):=(Option.some.inj hbl).symm
      obtain ⟨l,a,hl,rfl,ha,hnc,hcm⟩:=hx
      obtain ⟨l',hl',h0,vs,hv,hall⟩:=hm.ok b _ hb
      rw [hl] at hl';cases hl'
      have hvals:=intsC_ok hM ((hall.drop j).take n)
      have hlen : M.length = n:=by
       have h1:=congrArg List.length hvals
       have h2:=hall.len
       simp [valsI_len] at h1
       omega
      subst hlen
      refine src_of ht fun hne=>⟨l.b,j,by rw [ha (by omega),h0];simp,fun y hy=>?_⟩
      have:=congrArg (fun l=>l[y]?) hvals
      simp only [valsI_get _ _ _ hy] at this
      rw [List.getElem?_take_of_lt hy,List.getElem?_drop] at this
      simp [World.cell?,hv,this]
    ·cases hd
   ·cases hd
  ·rename_i k' L
   split at hd
   ·rename_i hcond
    obtain ⟨rfl,rfl,rfl⟩:=hcond
    cases hd
    rcases hbl with hbl | ⟨b',hb',hbl⟩
    ·cases hbl
    ·simp [dstN] at hb'
     subst hb'
     have hb : h b = some (.ints k' L):=(Option.some.inj hbl).symm
     obtain ⟨l,a,hl,rfl,ha,hnc,hcm⟩:=hx
     obtain ⟨l',hl',hok⟩:=hm.ok b _ hb
     rw [hl] at hl';cases hl'
     refine sub (b:=b) hp ha hnc fun y hy=>?_
     obtain ⟨_,g⟩:=hok.2 y hy
     obtain ⟨v,hv,hokv⟩:=g 0 _ rfl
     have hv' : w.cell? ⟨l.b,l.off + y,none⟩ = some v:=by simpa using hv
     rw [hv',show v = .int k' (L.getD y 0) from hokv]
   ·cases hd
  ·rename_i k' L
   split at hd
   ·rename_i hcond
    obtain ⟨rfl,rfl,rfl⟩:=hcond
    cases hd
    rcases hbl with hbl | ⟨b',hb',hbl⟩
    ·cases hbl
    ·simp [dstN] at hb'
     subst hb'
     have hb : h b = some (.oints k' L):=(Option.some.inj hbl).symm
     obtain ⟨l,a,hl,rfl,ha,hnc,hcm⟩:=hx
     obtain ⟨l',hl',tt,hok⟩:=hm.ok b _ hb
     rw [hl] at hl';cases hl'
     obtain ⟨a',c',e1,e2,e3,e4⟩:=own_vals hok
     refine sub (b:=b) hp ha hnc fun y hy=>?_
     obtain ⟨_,cur,hcur,hsz,hat⟩:=e4 (by omega)
     simp only [World.cell?,hcur]
     simp only [Option.isSome_none,Bool.false_eq_true,if_false]
     exact hat y hy
   ·cases hd
  ·cases hd
 ·cases hd
theorem app_snd {P : Program} {μ : Mu} {h : Nat -> Option Blk} {w : World} {base : Nat} {t tx ty el : TypeId} {inf : TypeInfo} {k : IntKind} {L M : List Int} {u v : Value} {names : List Nat} {ws : List (Option Blk)} {p : Option Prop} {K : Res -> Prop}
  (hf : ∀ n ∈ freshN base,μ n = none) (ht : P.underlying t = some (.slice el)) (hi : P.info? el = some inf) (hs1 : inf.size = 1) (hz1 : one1 inf.zero = true) (hb0 : 0 < inf.bytes)
  (hd : DstOk μ h w k names u L) (hs : holds p -> Src P 1 tx v M.length (valsI k M) w) (hw : (names = [] /\ ws = []) \/ ∃ a,names = [a] /\ ws = [none]) (hk : (appOut base inf k ws L M p).wp K) :
  ∃ z w' μ' res,(Builtin.append_ #[t,tx] ty #[u,v]).run P w = .ok z w' /\ K res /\ Eff0 μ μ' h w base names res z w':=by
 unfold appOut at hk
 obtain ⟨hp,hk⟩:=oAst_ok hk
 obtain ⟨⟨hby⟩,hk⟩:=hk
 obtain ⟨ao,g,o,c,cur,tc,rfl,hnc,hcm,hrow⟩:=hd
 have hz : ∃ z,inf.zero = some z /\ z.cells.size = 1:=by
  unfold one1 at hz1
  split at hz1
  ·rename_i z hz;exact ⟨z,hz,by simpa using hz1⟩
  ·cases hz1
 obtain ⟨z,hz,hzs⟩:=hz
 rw [List.length_append] at hby
 have hmax : L.length + M.length <= maxLen:=by
  have : L.length + M.length <= (L.length + M.length) * inf.bytes:=Nat.le_mul_of_pos_right _ hb0
  simp only [maxLen]
  omega
 obtain ⟨ao',g',o',c',w',hr,hge,hcm',hnew,hfr⟩:=append_core (P:=P) (w:=w) (t:=t) (tx:=tx) (ty:=ty) ht hi hz hzs hs1 (ao:=ao) (g:=g) (o:=o) (c:=c) (cur:=cur) (tc:=tc) (xs:=valsI k L) (news:=valsI k M) (x:=v) (m:=M.length) (valsI_len k L) hnc hcm
  (fun hc=>by obtain ⟨a1,a2,a3,a4,_⟩:=hrow hc;exact ⟨a1,a2,a3,a4⟩) (hs hp) hby hmax
 have hb : μ base = none:=hf base (by simp [freshN])
 let l' : Loc:=⟨g',o',.slice ao' (L.length + M.length) c'⟩
 let μ' : Mu:={ μ with loc:=fun n=>if n = base then some l' else μ n }
 have hext : Ext μ μ':=by
  refine ⟨fun n l hl=>?_,fun _ _ _ h=>h⟩
  by_cases hn : n = base
  ·subst hn;rw [hb] at hl;cases hl
  ·simp [μ',hn,hl]
 have hK:=hk c' (by rw [List.length_append];exact hge)
 refine ⟨_,w',μ',_,hr,hK,{ ext:=hext,dom:=fun n l hl=>?_,val:=⟨l',ao',by simp [μ'],rfl,by simp [l'],fun hc=>(hnew hc).1,by simpa using hge,hcm'⟩,os:=hfr.os,tape:=hfr.tape,output:=hfr.output,size:=hfr.size,keep:=fun x hx hne=>hfr.keep x hx fun e=>?_,wrs:=?_,wsl:=?_,nsl:=by simp,olds:=fun j n b' h1 h2=>?_,news:=fun j b hj=>?_,newsApart:=fun j k b c l m x hne hj hk'=>?_ }⟩
 ·by_cases hn : n = base
  ·right;simp [freshN,hn]
  ·left;simpa [μ',hn] using hl
 ·split at e
  ·rename_i hc
   obtain ⟨_,_,_,_,b,bk,l,hn,hb',hl,hex⟩:=hrow hc
   cases e
   exact hne b bk l (by rw [hn];simp) hb' hl hex
  ·cases e
 ·rcases hw with ⟨rfl,_⟩ | ⟨a,rfl,_⟩ <;> simp
 ·rcases hw with ⟨rfl,rfl⟩ | ⟨a,rfl,rfl⟩ <;> rfl
 ·rcases hw with ⟨rfl,rfl⟩ | ⟨a,rfl,rfl⟩
  ·simp at h1
  ·match j,h2 with
   | 0,h2=>simp at h2
   | j + 1,h2=>simp at h2
 ·match j,hj with
  | 0,hj=>
   simp at hj
   subst hj
   refine ⟨l',by simp [μ'],⟨?t,ao',c',valsI k (L ++ M),by simp [l'],by simpa using hge,hcm',by simp [valsI_len],fun hc=>?row,fun i hi'=>⟨rfl,fun j c hc=>?el⟩⟩,fun x hx=>?use⟩
   case t=>exact if hc : 0 < c' then ((hnew hc).2.1).choose_spec.choose else 0
   case row=>
    have q:=(hnew hc).2.1
    refine ⟨(hnew hc).1,q.choose, ?_, ?_, ?_⟩
    ·have:=q.choose_spec.choose_spec.1
     simp only [hc,dif_pos]
     exact this
    ·simpa using q.choose_spec.choose_spec.2.1
    ·intro x hx
     have:=q.choose_spec.choose_spec.2.2 x (by simpa using hx)
     rw [this]
     simp [valsI]
   case el=>
    match j,hc with
    | 0,hc=>
     simp [intsF] at hc
     subst hc
     refine ⟨_,by simpa using valsI_get k (L ++ M) i hi', ?_⟩
     simp [SC.ok,List.getD_eq_getElem?_getD]
    | j + 1,hc=>simp [intsF] at hc
   case use=>
    have hc : 0 < c':=by
     rcases Nat.eq_zero_or_pos c' with h0 | h0
     ·have h1 : Value.noRow l'.hd = false:=hx.1
      simp [l',h0,Value.noRow] at h1
     ·exact h0
    have hno : Value.noRow l'.hd = false:=by
     cases c' with
     | zero=>omega
     | succ c=>rfl
    have hxg : x = g':=by have h1 : l'.b = x:=hx.2;exact h1.symm
    subst hxg
    rcases (hnew hc).2.2 with ⟨hc0,rfl⟩ | hge'
    ·right
     obtain ⟨_,_,_,_,b,bk,l,hn,hb',hl,hex⟩:=hrow hc0
     rcases hw with ⟨h0,_⟩ | ⟨a,ha,hws⟩
     ·rw [h0] at hn;cases hn
     ·rw [hn] at ha;cases ha
      exact ⟨0,b,bk,l,by rw [hn];rfl,by rw [hws];rfl,hb',hl,hex⟩
    ·left;exact hge'
  | j + 1,hj=>simp at hj
 ·match j,k,hj,hk' with
  | 0,0,_,_=>exact absurd rfl hne
  | j + 1,_,hj,_=>simp at hj
  | 0,k + 1,_,hk'=>simp at hk'
theorem append_ok {P : Program} {μ : Mu} {h : Nat -> Option Blk} {w : World} {base : Nat} {t tx ty : TypeId} {x y : SV} {u v : Value} (hm : HeapM μ h w) (hf : ∀ n ∈ freshN base,μ n = none) (hx : x.ok μ u) (hy : y.ok μ v) :
  Snd P μ h w base (appendReq P base t tx x y) (Builtin.append_ #[t,tx] ty #[u,v]):=by
 intro K hk
 unfold appendReq at hk ⊢
 split at hk
 ·rename_i el el2 ht htx
  split at hk
  ·rename_i inf k hi hu
   split at hk
   ·rename_i hcond
    have hc2:=hcond
    simp at hcond
    obtain ⟨hs1,hz1,hb0⟩:=hcond
    rw [if_pos hc2]
    split at hk
    ·rename_i hx0 hy0
     simp only [Req.pre] at hk
     split at hk
     ·rename_i L p M hL hM
      have hd:=dst_ok hm hx (.inl rfl) hL
      rw [hx0] at hd
      exact app_snd hf ht hi hs1 hz1 hb0 hd (fun hp=>src_ok htx hm hy (.inl rfl) hM hp) (.inl ⟨rfl,rfl⟩) hk
     ·exact hk.elim
    ·rename_i b hx0 hy0
     simp only [Req.pre] at hk
     split at hk
     ·rename_i L p M hL hM
      have hd:=dst_ok hm hx (.inl rfl) hL
      rw [hx0] at hd
      exact app_snd hf ht hi hs1 hz1 hb0 hd (fun hp=>src_ok htx hm hy (.inr ⟨b,hy0,rfl⟩) hM hp) (.inl ⟨rfl,rfl⟩) hk
     ·exact hk.elim
    ·rename_i a hx0 hy0
     simp only [Req.pre] at hk
     split at hk
     ·rename_i L p M hL hM
      have hd:=dst_ok hm hx (.inr ⟨a,hx0,rfl⟩) hL
      rw [hx0] at hd
      exact app_snd hf ht hi hs1 hz1 hb0 hd (fun hp=>src_ok htx hm hy (.inl rfl) hM hp) (.inr ⟨a,rfl,rfl⟩) hk
     ·exact hk.elim
    ·rename_i a b hx0 hy0
     simp only [Req.pre,List.cons_append,List.nil_append,List.map_cons,List.map_nil] at hk
     split at hk
     ·rename_i L p M hL hM
      have hd:=dst_ok hm hx (.inr ⟨a,hx0,rfl⟩) hL
      rw [hx0] at hd
      exact app_snd hf ht hi hs1 hz1 hb0 hd (fun hp=>src_ok htx hm hy (.inr ⟨b,hy0,rfl⟩) hM hp) (.inr ⟨a,rfl,rfl⟩) hk
     ·exact hk.elim
    ·exact hk.elim
   ·exact hk.elim
  ·exact hk.elim
 ·exact hk.elim
theorem row_new {μ ν : Mu} {h : Nat -> Option Blk} {w : World} {k : IntKind} {names : List Nat} {u : Value} {L : List Int} (hd : DstOk μ h w k names u L) :
  ∃ l c,u = l.hd /\ l.hd = .slice (match l.hd with | .slice a _ _=>a | _=>none) L.length c /\ L.length <= c /\ c <= maxLen /\ (0 < c -> (match l.hd with | .slice a _ _=>a | _=>none) = some ⟨l.b,l.off,none⟩) /\ (Blk.oints k L).ok ν w l ∧
   ∀ x,(Blk.oints k L).uses w l x -> ∃ b bk m,names = [b] /\ h b = some bk /\ μ b = some m /\ bk.excl w m x:=by
 obtain ⟨ao,g,o,c,cur,tc,rfl,h1,h2,h3⟩:=hd
 refine ⟨⟨g,o,.slice ao L.length c⟩,c,rfl,rfl,h1,h2,fun hc=>(h3 hc).1,⟨tc,ao,c,valsI k L,rfl,h1,h2,by simp [valsI_len],fun hc=>?_,fun i hi=>⟨rfl,fun j c' hc'=>?_⟩⟩,fun x hx=>?_⟩
 ·obtain ⟨a1,a2,a3,a4,_⟩:=h3 hc
  exact ⟨a1,cur,a2,by simpa using a3,fun x hx=>a4 x (by simpa using hx)⟩
 ·match j,hc' with
  | 0,hc'=>
   simp [intsF] at hc'
   subst hc'
   exact ⟨_,by simpa using valsI_get k L i hi,by simp [SC.ok,List.getD_eq_getElem?_getD]⟩
  | j + 1,hc'=>simp [intsF] at hc'
 ·have hc : 0 < c:=by
   rcases Nat.eq_zero_or_pos c with h0 | h0
   ·have h1 : Value.noRow (.slice ao L.length c) = false:=hx.1
    simp [h0,Value.noRow] at h1
   ·exact h0
  have hno : Value.noRow (.slice ao L.length c) = false:=by
   cases c with
   | zero=>omega
   | succ c=>rfl
  obtain rfl : g = x:=hx.2
  obtain ⟨_,_,_,_,b,bk,l,e1,e2,e3,e4⟩:=h3 hc
  exact ⟨b,bk,l,e1,e2,e3,e4⟩
theorem own_eff {μ : Mu} {h : Nat -> Option Blk} {w : World} {base : Nat} {k : IntKind} {names : List Nat} {u : Value} {L : List Int} {ws : List (Option Blk)} (hf : ∀ n ∈ freshN base,μ n = none) (hd : DstOk μ h w k names u L) (hw : (names = [] /\ ws = []) \/ ∃ a,names = [a] /\ ws = [none]) :
  ∃ c μ',L.length <= c /\ Eff0 μ μ' h w base names ⟨one (.own base L.length c false),ws,[.oints k L]⟩ u w:=by
 have hb : μ base = none:=hf base (by simp [freshN])
 obtain ⟨l,c,e1,e2,e3,e4,e5,e6,e7⟩:=row_new (ν:=noMu') hd
 let μ' : Mu:={ μ with loc:=fun n=>if n = base then some l else μ n }
 have hext : Ext μ μ':=by
  refine ⟨fun n l hl=>?_,fun _ _ _ h=>h⟩
  by_cases hn : n = base
  ·subst hn;rw [hb] at hl;cases hl
  ·simp [μ',hn,hl]
 refine ⟨c,μ',e3,{ ext:=hext,dom:=fun n l hl=>?_,val:=⟨l,_,by simp [μ'],e1,e2,e5,e3,e4⟩,os:=rfl,tape:=rfl,output:=rfl,size:=Nat.le_refl _,keep:=fun _ _ _=>rfl,wrs:=?_,wsl:=?_,nsl:=by simp,olds:=fun j n b' h1 h2=>?_,news:=fun j b hj=>?_,newsApart:=fun j k b c l m x hne hj hk'=>?_ }⟩
 ·by_cases hn : n = base
  ·right;simp [freshN,hn]
  ·left;simpa [μ',hn] using hl
 ·rcases hw with ⟨rfl,_⟩ | ⟨a,rfl,_⟩ <;> simp
 ·rcases hw with ⟨rfl,rfl⟩ | ⟨a,rfl,rfl⟩ <;> rfl
 ·rcases hw with ⟨rfl,rfl⟩ | ⟨a,rfl,rfl⟩
  ·simp at h1
  ·match j,h2 with
   | 0,h2=>simp at h2
   | j + 1,h2=>simp at h2
 ·match j,hj with
  | 0,hj=>
   simp at hj
   subst hj
   refine ⟨l,by simp [μ'],Blk.ok_ext ⟨fun n l hl=>(by cases hl),fun _ _ _ h=>(by cases h)⟩ e6,fun x hx=>?_⟩
   obtain ⟨b,bk,m,a1,a2,a3,a4⟩:=e7 x hx
   right
   rcases hw with ⟨h0,_⟩ | ⟨a,ha,hws⟩
   ·rw [h0] at a1;cases a1
   ·rw [a1] at ha;cases ha
    exact ⟨0,b,bk,m,by rw [a1];rfl,by rw [hws];rfl,a2,a3,a4⟩
  | j + 1,hj=>simp at hj
 ·match j,k,hj,hk' with
  | 0,0,_,_=>exact absurd rfl hne
  | j + 1,_,hj,_=>simp at hj
  | 0,k + 1,_,hk'=>simp at hk'
end
end Zx
namespace Zx
noncomputable section
open Go
def partsI (k : IntKind) : Nat -> List (Nat × SV) -> Option (List Int)
 | _,[]=>some []
 | i,(j,.s (.c c)) :: ps=>if j == i then match intC k c,partsI k (i + 1) ps with
   | some x,some xs=>some (x :: xs)
   | _,_=>none
  else none
 | _,_=>none
theorem partsI_ok {μ : Mu} {k : IntKind} : ∀ {ps : List (Nat × SV)} {i : Nat} {xs : List Int} {vs : List (Nat × Value)},partsI k i ps = some xs -> AllP μ ps vs -> vs = ((valsI k xs).zipIdx i).map fun x=>(x.2,x.1)
 | [],i,xs,[],h,_=>by cases h;rfl
 | (j,.s (.c c)) :: ps,i,xs,(j',v) :: vs,h,ha=>by
  simp only [partsI] at h
  split at h
  ·rename_i hj
   split at h
   ·rename_i x ys h1 h2
    cases h
    obtain ⟨e,hc,hr⟩:=ha
    have hj' : j = i:=by simpa using hj
    subst hj'
    have e' : j' = j:=by first | exact e.symm | exact e
    subst e'
    rw [partsI_ok h2 hr,intC_ok h1 hc]
    rfl
   ·cases h
  ·cases h
 | (_,.s (.a _)) :: _,_,_,_,h,_=>by simp [partsI] at h
 | (_,.t _) :: _,_,_,_,h,_=>by simp [partsI] at h
 | (_,.u) :: _,_,_,_,h,_=>by simp [partsI] at h
 | [],_,_,_ :: _,_,ha=>ha.elim
 | _ :: _,_,_,[],_,ha=>ha.elim
def litI (xs : List Int) (len : Nat) : Bool:=xs.length == len
def bsReq (P : Program) (base : Nat) (t : TypeId) (len : Nat) (parts : List (Nat × SV)) : Req:=
 match P.underlying t with
 | some (.slice el)=>match P.info? el,P.underlying el with
  | some inf,some (.int k)=>match partsI k 0 parts with
   | some xs=>if (inf.size == 1 && one1 inf.zero) && (litI xs len && decide (len <= 1000)) then ⟨[],[],fun _=>.ret ⟨one (.own base len len true),[],[.oints k xs]⟩⟩ else Req.fail
   | none=>Req.fail
  | _,_=>Req.fail
 | _=>Req.fail
theorem bs_ok {P : Program} {μ : Mu} {h : Nat -> Option Blk} {w : World} {base : Nat} {t : TypeId} {len : Nat} {parts : List (Nat × SV)} {vs : Array (Nat × Value)} (hf : ∀ n ∈ freshN base,μ n = none) (ha : AllP μ parts vs.toList) :
  Snd P μ h w base (bsReq P base t len parts) (Instr.buildSlice t len vs):=by
 intro K hk
 unfold bsReq at hk ⊢
 split at hk
 ·rename_i el hu
  split at hk
  ·rename_i inf k hi hk0
   split at hk
   ·rename_i xs hxs
    split at hk
    ·rename_i hc
     have hc2:=hc
     simp only [Bool.and_eq_true,beq_iff_eq,decide_eq_true_eq,litI] at hc
     obtain ⟨⟨hs1,hz1⟩,hl,hle⟩:=hc
     rw [if_pos hc2]
     subst hl
     have hz : ∃ z,inf.zero = some z /\ z.cells.size = 1:=by
      unfold one1 at hz1
      split at hz1
      ·rename_i z hz;exact ⟨z,hz,by simpa using hz1⟩
      ·cases hz1
     obtain ⟨z,hz,hzs⟩:=hz
     have hvs:=partsI_ok hxs ha
     have hrun : (Instr.buildSlice t xs.length vs).run P w = .ok (.slice (some ⟨w.heap.size,0,none⟩) xs.length xs.length) (w.alloc (.cells (valsI k xs).toArray el)):=by
      by_cases h0 : xs.length = 0
      ·have : xs = []:=List.eq_nil_of_length_eq_zero h0
       subst this
       have hv0 : vs.toList = []:=hvs
       simp [Instr.buildSlice,run_underlying hu,Go.sizeOf,typeInfo,hi,hv0,Instr.fill,newRow,valsI]
       rw [show Array.range 0 = #[] from by decide]
       simp
      ·refine run_buildSlice w t el xs.length vs _ inf z hu hi hz (by rw [hs1];omega) (by rw [hs1];omega) ?_
       rw [hvs,hs1]
       exact Great.fill_flat _ _ (fun v hv=>by simp [valsI] at hv;obtain ⟨n,_,rfl⟩:=hv;rfl) (by simp [valsI_len])
     have hb : μ base = none:=hf base (by simp [freshN])
     let l' : Loc:=⟨w.heap.size,0,.slice (some ⟨w.heap.size,0,none⟩) xs.length xs.length⟩
     let μ' : Mu:={ μ with loc:=fun n=>if n = base then some l' else μ n }
     have hext : Ext μ μ':=by
      refine ⟨fun n l hl=>?_,fun _ _ _ h=>h⟩
      by_cases hn : n = base
      ·subst hn;rw [hb] at hl;cases hl
      ·simp [μ',hn,hl]
     refine ⟨_,_,μ',_,hrun,hk,{ ext:=hext,dom:=fun n l hl=>?_,val:=⟨l',_,by simp [μ'],rfl,rfl,fun _=>rfl,Nat.le_refl _,by simp only [maxLen];omega⟩,os:=rfl,tape:=rfl,output:=rfl,size:=by simp,keep:=fun x hx _=>(by first | exact heap_alloc_old w _ x hx | exact heap_alloc_old w _ hx),wrs:=List.nodup_nil,wsl:=rfl,nsl:=by simp,olds:=fun j n b' h=>(by simp at h),news:=fun j b hj=>?_,newsApart:=fun j k b c l m x hne hj hk'=>?_ }⟩
     ·by_cases hn : n = base
      ·right;simp [freshN,hn]
      ·left;simpa [μ',hn] using hl
     ·match j,hj with
      | 0,hj=>
       simp at hj
       subst hj
       refine ⟨l',by simp [μ'],⟨el,_,xs.length,valsI k xs,rfl,Nat.le_refl _,by simp only [maxLen];omega,by simp [valsI_len],fun hc=>⟨rfl,_,heap_alloc_new w _,by simp [l',valsI_len],fun x hx=>by simp [l']⟩,fun i hi'=>⟨rfl,fun j c hc=>?_⟩⟩,fun x hx=>?_⟩
       ·match j,hc with
        | 0,hc=>
         simp [intsF] at hc
         subst hc
         exact ⟨_,by simpa using valsI_get k xs i hi',by simp [SC.ok,List.getD_eq_getElem?_getD]⟩
        | j + 1,hc=>simp [intsF] at hc
       ·left
        have h1 : l'.b = x:=hx.2
        simp [l'] at h1
        omega
      | j + 1,hj=>simp at hj
     ·match j,k,hj,hk' with
      | 0,0,_,_=>exact absurd rfl hne
      | j + 1,_,hj,_=>simp at hj
      | 0,k + 1,_,hk'=>simp at hk'
    ·exact hk.elim
   ·exact hk.elim
  ·exact hk.elim
 ·exact hk.elim
def strOf (L : List Int) : ByteArray:=L.foldl (fun r n=>r.push (UInt8.ofNat n.toNat)) ByteArray.empty
theorem run_str {P : Program} {w : World} {s d : TypeId} {u : Value} {M : List Int} (el : TypeId) (hs : P.underlying s = some (.slice el)) (hd : P.underlying d = some .string) (he : P.underlying el = some (.int .u8)) (hr : ∃ a n c,u = .slice a n c) (h : Src P 1 s u M.length (valsI .u8 M) w) :
  (convert s d u).run P w = .ok (.string (strOf M)) w:=by
 obtain ⟨a,n,c,rfl⟩:=hr
 rw [run_convert_bytes_string w s d el a n c hs he hd]
 have hn : n = M.length:=by
  have:=h.len w
  simpa [Builtin.lenOf] using this
 subst hn
 have hc:=h.cells
 cases a with
 | none=>
  simp [Builtin.firstCells] at hc
  have : M = []:=by
   have h0 : (valsI .u8 M).length = 0:=by
    cases hv : valsI .u8 M with
    | nil=>rfl
    | cons a l=>rw [hv] at hc;simp at hc
   rw [valsI_len] at h0
   exact List.eq_nil_of_length_eq_zero h0
  subst this
  rfl
 | some a=>
  have hl : (loadCells a M.length).run P w = .ok (M.map (Value.int .u8)).toArray w:=by
   simpa [Builtin.firstCells,valsI] using hc
  exact run_bytesToString w a M.length c M hl
theorem Eff0.row {P : Program} {μ : Mu} {h : Nat -> Option Blk} {w : World} {base : Nat} {k : IntKind} {el : TypeId} {xs : List Int} (hf : ∀ n ∈ freshN base,μ n = none) (hle : xs.length <= maxLen) (q : Bool) :
  ∃ μ',Eff0 μ μ' h w base [] ⟨one (.own base xs.length xs.length q),[],[.oints k xs]⟩ (.slice (some ⟨w.heap.size,0,none⟩) xs.length xs.length) (w.alloc (.cells (valsI k xs).toArray el)):=by
 have hb : μ base = none:=hf base (by simp [freshN])
 let l' : Loc:=⟨w.heap.size,0,.slice (some ⟨w.heap.size,0,none⟩) xs.length xs.length⟩
 let μ' : Mu:={ μ with loc:=fun n=>if n = base then some l' else μ n }
 have hext : Ext μ μ':=by
  refine ⟨fun n l hl=>?_,fun _ _ _ h=>h⟩
  by_cases hn : n = base
  ·subst hn;rw [hb] at hl;cases hl
  ·simp [μ',hn,hl]
 refine ⟨μ',{ ext:=hext,dom:=fun n l hl=>?_,val:=⟨l',_,by simp [μ'],rfl,rfl,fun _=>rfl,Nat.le_refl _,hle⟩,os:=rfl,tape:=rfl,output:=rfl,size:=by simp,keep:=fun x hx _=>(by first | exact heap_alloc_old w _ x hx | exact heap_alloc_old w _ hx),wrs:=List.nodup_nil,wsl:=rfl,nsl:=by simp,olds:=fun j n b' h=>(by simp at h),news:=fun j b hj=>?_,newsApart:=fun j k b c l m x hne hj hk'=>?_ }⟩
 ·by_cases hn : n = base
  ·right;simp [freshN,hn]
  ·left;simpa [μ',hn] using hl
 ·match j,hj with
  | 0,hj=>
   simp at hj
   subst hj
   refine ⟨l',by simp [μ'],⟨el,_,xs.length,valsI k xs,rfl,Nat.le_refl _,hle,by simp [valsI_len],fun hc=>⟨rfl,_,heap_alloc_new w _,by simp [l',valsI_len],fun x hx=>by simp [l']⟩,fun i hi'=>⟨rfl,fun j c hc=>?_⟩⟩,fun x hx=>?_⟩
   ·match j,hc with
    | 0,hc=>
     simp [intsF] at hc
     subst hc
     exact ⟨_,by simpa using valsI_get k xs i hi',by simp [SC.ok,List.getD_eq_getElem?_getD]⟩
    | j + 1,hc=>simp [intsF] at hc
   ·left
    have h1 : l'.b = x:=hx.2
    simp [l'] at h1
    omega
  | j + 1,hj=>simp at hj
 ·match j,k,hj,hk' with
  | 0,0,_,_=>exact absurd rfl hne
  | j + 1,_,hj,_=>simp at hj
  | 0,k + 1,_,hk'=>simp at hk'
end
end Zx
namespace Zx
noncomputable section
open Go
abbrev Spec := Nat -> List SV -> Req
abbrev Env := FuncId -> Option Spec
def SpecOk (P : Program) (f : FuncId) (sp : Spec) : Prop :=
 ∀ (μ : Mu) (h : Nat -> Option Blk) (w : World) (base : Nat) (args : List SV) (vals : List Value), HeapM μ h w -> AllV μ args vals -> (∀ n ∈ freshN base, μ n = none) -> ∀ K : Res -> Prop, (sp base args).pre h K →
  Calls P f vals.toArray w fun e w' => ∃ v μ' r, e = .returned v /\ K r /\ Eff μ μ' h w base (sp base args).wr r v w'
def Callable (P : Program) (f : FuncId) : Prop := ∃ fn, P.funcs[f]? = some fn /\ fn.body.isNone = false /\ (fn.name == "runtime.NumGoroutine") = false
def EnvOk (P : Program) (Γ : Env) : Prop := ∀ f sp, Γ f = some sp -> Callable P f /\ SpecOk P f sp
def evS (slots : List SV) : Operand -> SV
 | .tmp t => slots.getD t .u
 | .const v => constSV v
 | .func f => .s (.c (.fn f))
 | .global _ => .u
theorem evS_ok {w0 : World} {I : Nat -> Prop} {μ : Mu} {s : St} {a : Act} {w : World} (hm : Models w0 I μ s a w) (x : Operand) : (evS s.slots x).ok μ (a.eval x) := by
 cases x with
 | tmp t =>
  simp only [evS, Act.eval]
  cases h : s.slots[t]? with
  | none => simp [List.getD, h]; trivial
  | some y =>
   obtain ⟨v, hv, hok⟩ := hm.slots t y h
   simp [List.getD, h, hv]
   exact hok
 | const v => exact constSV_ok μ v
 | func f => rfl
 | global g => trivial
def binOut (P : Program) (op : BinOp) (t : TypeId) (x y : SV) : Out SV :=
 match x.int?, y.int? with
 | some (k, a, ca), some (k', b, cb) => intOut op k k' a b ca cb
 | _, _ => match x.bool?, y.bool? with
  | some (a, ca), some (b, cb) => match P.underlying t with
   | some .bool => boolOut op a b (ca && cb)
   | _ => .fail
  | _, _ => match x.ptr?, y.ptr? with
   | some a, some b => match P.underlying t with
    | some (.pointer _) => ptrOut op a b
    | _ => .fail
   | _, _ => match x.agg?, y.agg? with
    | some xs, some ys => eqOut P op t xs ys
    | _, _ => match x.str?, y.str? with
     | some a, some b => match P.underlying t with
      | some .string => strEq op a b
      | _ => .fail
     | _, _ => .fail
theorem bin_ok {μ : Mu} {P : Program} {w : World} {K : SV -> Prop} {op : BinOp} {t : TypeId} {xo yo : Operand} {x y : SV} {u v : Value} (hx : x.ok μ u) (hy : y.ok μ v) (h : (binOut P op t x y).wp K) :
  ∃ z sv, (do eqGuard op t xo yo u v; binOp op t u v).run P w = .ok z w /\ K sv /\ sv.ok μ z := by
 unfold binOut at h
 split at h
 ·rename_i k a ca k' b cb ha hb
  have e1 := SV.int_ok ha hx
  have e2 := SV.int_ok hb hy
  subst e1; subst e2
  obtain ⟨z, sv, h1, h2, h3⟩ := int_out_ok (μ := μ) (P := P) (w := w) (t := t) h
  exact ⟨z, sv, by rw [eqGuard_at_int]; simpa using h1, h2, h3⟩
 ·split at h
  ·rename_i a ca b cb ha hb
   have e1 := SV.bool_ok ha hx
   have e2 := SV.bool_ok hb hy
   subst e1; subst e2
   split at h
   ·rename_i hu
    obtain ⟨z, sv, h1, h2, h3⟩ := bool_out_ok (μ := μ) (P := P) (w := w) (t := t) hu h
    exact ⟨z, sv, by rw [eqGuard_at_bool]; simpa using h1, h2, h3⟩
   ·exact h.elim
  ·split at h
   ·rename_i a b ha hb
    have e1 := SV.ptr_ok ha hx
    have e2 := SV.ptr_ok hb hy
    split at h
    ·rename_i e hu
     obtain ⟨z, sv, h1, h2, h3⟩ := ptr_out_ok (μ := μ) (P := P) (w := w) (t := t) hu e1 e2 h
     refine ⟨z, sv, ?_, h2, h3⟩
     have hp : ∃ p, u = .pointer p := by
      cases a
      ·exact ⟨none, by simpa using e1⟩
      ·obtain ⟨p, hp⟩ := (by simpa using e1 : ∃ p, u = .pointer (some p)); exact ⟨some p, hp⟩
     obtain ⟨p, rfl⟩ := hp
     rw [eqGuard_at_pointer]
     simpa using h1
    ·exact h.elim
   ·split at h
    ·rename_i xs ys ha hb
     obtain ⟨us, rfl, hxa⟩ := SV.agg_ok ha hx
     obtain ⟨vs, rfl, hya⟩ := SV.agg_ok hb hy
     exact eq_ok hxa hya h
    ·split at h
     ·rename_i a b ha hb
      have e1 := SV.str_ok ha hx
      have e2 := SV.str_ok hb hy
      subst e1; subst e2
      split at h
      ·rename_i hu
       obtain ⟨z, sv, h1, h2, h3⟩ := str_out_ok (μ := μ) (P := P) (w := w) (t := t) hu h
       exact ⟨z, sv, by rw [eqGuard_at_string]; simpa using h1, h2, h3⟩
      ·exact h.elim
     ·exact h.elim
def isNilC : Operand -> Bool
 | .const (.slice none 0 0) => true
 | _ => false
theorem isNil_ok {μ : Mu} {o : Operand} (h : isNilC o = true) (ρ : Operand -> Value) (hρ : ∀ v, ρ (.const v) = v) : ρ o = .slice none 0 0 := by
 unfold isNilC at h
 split at h
 ·exact hρ _
 ·cases h
def slcT (P : Program) (t : TypeId) : Bool :=
 match P.underlying t with
 | some (.slice _) => true
 | _ => false
def pickReq (c a b : SV) : Req :=
 match c.bool? with
 | some (q, f) => match f with
  | true => match q with
   | true => Req.pure (.ret a)
   | false => Req.pure (.ret b)
  | false => Req.pure (.brB q (.ret a) (.ret b))
 | none => Req.fail
def callReq (P : Program) (Γ : Env) (base : Nat) (ev : Operand -> SV) (c : Call) : Req :=
 match c.callee with
 | .builtin .len => match c.args.toList, c.argTypes.toList with
  | [x], [t] => Req.pure (lenOut P t (ev x))
  | _, _ => Req.fail
 | .builtin .append => match c.args.toList, c.argTypes.toList with
  | [x, y], [t, tx] => appendReq P base t tx (ev x) (ev y)
  | _, _ => Req.fail
 | .value f => match ev f with
  | .s (.c (.fn g)) => match Γ g with
   | some sp => sp base (c.args.toList.map ev)
   | none => Req.fail
  | _ => Req.fail
 | _ => Req.fail
def opReq (P : Program) (Γ : Env) (base : Nat) (ev : Operand -> SV) : Op -> Req
 | .move x => Req.pure (.ret (ev x))
 | .assign x => Req.pure (.ret (ev x))
 | .pick c a b => pickReq (ev c) (ev a) (ev b)
 | .alloc t => allocReq P base t
 | .box t x => newReq base t (ev x).cells?
 | .build t parts => Req.pure (buildOut P t (parts.toList.map fun p => (p.1, ev p.2)))
 | .buildSlice t len parts => bsReq P base t len (parts.toList.map fun p => (p.1, ev p.2))
 | .load t a => loadReq P t (ev a)
 | .store t a x => storeReq P t (ev a) (ev x)
 | .binOp op t x y _ => Req.pure (binOut P op t (ev x) (ev y))
 | .unOp op _ x => Req.pure (unOut op (ev x))
 | .convert s d x => Req.pure (convOut P s d (ev x))
 | .slice t x lo hi mx => Req.pure (sliceOut P t (ev x) (lo.map ev) (hi.map ev) (mx.map ev))
 | .fieldAddr s x f => Req.pure (fieldOut P s (ev x) f)
 | .indexAddr t x i => Req.pure (indexOut P t (ev x) (ev i))
 | .index t x i => Req.pure (indexV P t (ev x) (ev i))
 | .extract x i => Req.pure (extractOut (ev x) i)
 | .call c => callReq P Γ base ev c
 | _ => Req.fail
def Came (μ : Mu) (h : Nat -> Option Blk) (w : World) (base : Nat) (wr : List Nat) (dst : Option Tmp) (a : Act) (K : Res -> Prop) (a' : Act) (w' : World) : Prop :=
 ∃ v μ' r, a' = a.put dst v /\ K r /\ Eff μ μ' h w base wr r v w'
theorem step_value {P : Program} {μ : Mu} {h : Nat -> Option Blk} {w : World} {base : Nat} {r : Req} {x : Sem Value} {o : Oper} {a : Act} {Q : Exit -> Act -> World -> Prop} {K : Res -> Prop}
  (hm : HeapM μ h w) (hs : Snd P μ h w base r x) (he : execOp a.eval o = (do pure (.value (← x)))) (hk : r.pre h K) : o.wp P a w (Came μ h w base r.wr o.dst a K) Q := by
 obtain ⟨v, w', μ', res, h1, h2, h3⟩ := hs K hk
 unfold Oper.wp
 rw [he]
 simp only [Sem.run_bind, h1, Result.andThen_ok, Sem.run_pure, Oper.upon_value]
 exact ⟨v, μ', res, rfl, h2, h3.eff hm⟩
theorem step_unit {P : Program} {μ : Mu} {h : Nat -> Option Blk} {w : World} {base : Nat} {r : Req} {x : Sem Unit} {o : Oper} {a : Act} {Q : Exit -> Act -> World -> Prop} {K : Res -> Prop}
  (hm : HeapM μ h w) (hs : SndU P μ h w base r x) (he : execOp a.eval o = (do x; pure .skip)) (hk : r.pre h K) : o.wp P a w (Came μ h w base r.wr o.dst a K) Q := by
 obtain ⟨w', μ', res, h1, h2, h3⟩ := hs K hk
 unfold Oper.wp
 rw [he]
 simp only [Sem.run_bind, h1, Result.andThen_ok, Sem.run_pure, Oper.upon_skip]
 exact ⟨undef, μ', res, rfl, h2, h3.eff hm⟩
theorem allV_map {μ : Mu} {ev : Operand -> SV} {ρ : Operand -> Value} (h : ∀ x, (ev x).ok μ (ρ x)) : ∀ l : List Operand, AllV μ (l.map ev) (l.map ρ)
 | [] => trivial
 | x :: l => ⟨h x, allV_map h l⟩
theorem allP_map {μ : Mu} {ev : Operand -> SV} {ρ : Operand -> Value} (h : ∀ x, (ev x).ok μ (ρ x)) : ∀ l : List (Nat × Operand), AllP μ (l.map fun p => (p.1, ev p.2)) (l.map fun p => (p.1, ρ p.2))
 | [] => trivial
 | x :: l => ⟨rfl, h x.2, allP_map h l⟩
theorem optOk_map {μ : Mu} {ev : Operand -> SV} {ρ : Operand -> Value} (h : ∀ x, (ev x).ok μ (ρ x)) : ∀ o : Option Operand, optOk μ (o.map ev) (o.map ρ)
 | none => trivial
 | some x => h x
theorem op_sound {P : Program} {Γ : Env} (hΓ : EnvOk P Γ) {μ : Mu} {h : Nat -> Option Blk} {w : World} {base : Nat} {ev : Operand -> SV} {o : Oper} {a : Act} {Q : Exit -> Act -> World -> Prop} {K : Res -> Prop}
  (hm : HeapM μ h w) (hev : ∀ x, (ev x).ok μ (a.eval x)) (hf : ∀ n ∈ freshN base, μ n = none) (hk : (opReq P Γ base ev o.op).pre h K) :
  o.wp P a w (Came μ h w base (opReq P Γ base ev o.op).wr o.dst a K) Q := by
 obtain ⟨dst, op, type, pos, after, guard⟩ := o
 have fail : ∀ {R : Prop}, Req.fail.pre h K -> R := fun hh => hh.elim
 cases op <;> simp only [opReq] at hk ⊢ <;> try exact fail hk
 case move x =>
  refine step_value hm (x := pure (a.eval x)) (Snd.pure fun K' hK => ⟨_, _, rfl, hK, hev x⟩) ?_ hk
  simp [execOp]
 case assign x =>
  refine step_value hm (x := pure (a.eval x)) (Snd.pure fun K' hK => ⟨_, _, rfl, hK, hev x⟩) ?_ hk
  simp [execOp]
 case pick c x y =>
  unfold pickReq at hk ⊢
  split at hk
  ·rename_i q f hc
   have e := SV.bool_ok hc (hev c)
   cases f
   ·refine step_value hm (x := pure (if q then a.eval x else a.eval y)) (Snd.pure fun K' hK => ?_) ?_ hk
    ·cases q
     ·exact ⟨_, _, rfl, hK.2 rfl, hev y⟩
     ·exact ⟨_, _, rfl, hK.1 rfl, hev x⟩
    ·simp [execOp, e, asBool]
   ·cases q
    ·refine step_value hm (x := pure (a.eval y)) (Snd.pure fun K' hK => ⟨_, _, rfl, hK, hev y⟩) ?_ hk
     simp [execOp, e, asBool]
    ·refine step_value hm (x := pure (a.eval x)) (Snd.pure fun K' hK => ⟨_, _, rfl, hK, hev x⟩) ?_ hk
     simp [execOp, e, asBool]
  ·exact fail hk
 case alloc t => exact step_value hm (alloc_ok hf) (by simp only [execOp]) hk
 case box t x =>
  refine step_value hm (x := Instr.box t (a.eval x)) ?_ (by simp only [execOp]) hk
  exact new_ok hf fun l hl => SV.cells_ok hl (hev x)
 case build t parts =>
  refine step_value hm (x := Instr.build t (parts.map fun (i, x) => (i, a.eval x))) (Snd.pure fun K' hK => ?_) (by simp only [execOp]) hk
  obtain ⟨z, sv, h1, h2, h3⟩ := build_ok (w := w) (allP_map hev parts.toList) hK
  refine ⟨z, sv, ?_, h2, h3⟩
  rw [← h1]
  congr 2
  apply Array.toList_inj.1
  simp
 case load t x => exact step_value hm (load_ok hm (hev x)) (by simp only [execOp]) hk
 case store t x y => exact step_unit hm (store_ok hm (hev x) (hev y)) (by simp only [execOp]) hk
 case binOp op t x y t2 => exact step_value hm (Snd.pure fun K' hK => bin_ok (xo := x) (yo := y) (hev x) (hev y) hK) (by simp only [execOp]) hk
 case unOp op t x => exact step_value hm (Snd.pure fun K' hK => un_ok (hev x) hK) (by simp only [execOp]) hk
 case convert s d x => exact step_value hm (Snd.pure fun K' hK => conv_ok (hev x) hK) (by simp only [execOp]) hk
 case buildSlice t len parts =>
  refine step_value hm (x := Instr.buildSlice t len (parts.map fun (i, x) => (i, a.eval x))) (bs_ok hf ?_) (by simp only [execOp]) hk
  have := allP_map hev parts.toList
  simpa using this
 case slice t x lo hi mx => exact step_value hm (Snd.pure fun K' hK => slice_ok (hev x) (optOk_map hev lo) (optOk_map hev hi) (optOk_map hev mx) hK) (by simp only [execOp]) hk
 case fieldAddr s x f => exact step_value hm (Snd.pure fun K' hK => field_ok (hev x) hK) (by simp only [execOp]) hk
 case indexAddr t x i => exact step_value hm (Snd.pure fun K' hK => index_ok (hev x) (hev i) hK) (by simp only [execOp]) hk
 case index t x i => exact step_value hm (Snd.pure fun K' hK => indexV_ok (hev x) (hev i) hK) (by simp only [execOp]) hk
 case extract x i => exact step_value hm (Snd.pure fun K' hK => extract_ok (hev x) hK) (by simp only [execOp]) hk
 case call c =>
  obtain ⟨callee, args, argTypes⟩ := c
  unfold callReq at hk ⊢
  cases callee with
  | invoke r m => exact fail hk
  | builtin b =>
   cases b <;> simp only [] at hk ⊢ <;> try exact fail hk
   case len =>
    split at hk
    ·rename_i x t ha ht
     obtain ⟨args⟩ := args
     obtain ⟨argTypes⟩ := argTypes
     simp only [] at ha ht
     subst ha; subst ht
     refine step_value hm (x := Builtin.len_ #[t] type #[a.eval x]) (Snd.pure fun K' hK => len_ok (hev x) hK) ?_ hk
     simp [execOp, resolve, invoke, builtin]
    ·exact fail hk
   case append =>
    split at hk
    ·rename_i x y t tx ha ht
     obtain ⟨args⟩ := args
     obtain ⟨argTypes⟩ := argTypes
     simp only [] at ha ht
     subst ha; subst ht
     refine step_value hm (x := Builtin.append_ #[t, tx] type #[a.eval x, a.eval y]) (append_ok hm hf (hev x) (hev y)) ?_ hk
     simp [execOp, resolve, invoke, builtin]
    ·exact fail hk
  | value f =>
   simp only [] at hk ⊢
   split at hk
   ·rename_i g hg
    split at hk
    ·rename_i sp hsp
     obtain ⟨⟨fn, hfn, hbody, hname⟩, hok⟩ := hΓ g sp hsp
     have e : a.eval f = .func (.func g) #[] #[] := by
      have := hev f
      rw [hg] at this
      exact this
     have hc := hok μ h w base (args.toList.map ev) (args.toList.map a.eval) hm (allV_map hev _) hf K hk
     unfold Oper.wp
     have hrun : (execOp a.eval { dst := dst, op := Op.call { callee := .value f, args := args, argTypes := argTypes }, type := type, pos := pos, after := after, guard := guard }).run P w = .ok (.enter g (args.map a.eval)) w := by
      have hne : ¬ fn.name = "runtime.NumGoroutine" := by simpa using hname
      have hnb : ¬ fn.body = none := fun hh => by rw [hh] at hbody; cases hbody
      simp [execOp, resolve, invoke, e, Deferred.ofValue, callFunc, hfn, hnb, hne]
     rw [hrun, Oper.upon_enter]
     have hargs : (args.toList.map a.eval).toArray = args.map a.eval := by
      apply Array.toList_inj.1
      simp
     rw [hargs] at hc
     refine hc.mono fun e' w' he => ?_
     obtain ⟨v, μ', r, rfl, hr, heff⟩ := he
     exact ⟨v, μ', r, rfl, hr, heff⟩
    ·exact fail hk
   ·exact fail hk
end
end Zx
namespace Zx
noncomputable section
open Go
def opReqZ (P : Program) (Γ : Env) (base : Nat) (ev : Operand -> SV) (op : Op) : Req:=opReq P Γ base ev op
theorem op_soundA {P : Program} {Γ : Env} (hΓ : EnvOk P Γ) {μ : Mu} {h : Nat -> Option Blk} {w : World} {base : Nat} {ev : Operand -> SV} {o : Oper} {a : Act} {Q : Exit -> Act -> World -> Prop} {K : Res -> Prop}
  (hm : HeapM μ h w) (hev : ∀ x,(ev x).ok μ (a.eval x)) (hf : ∀ n ∈ freshN base,μ n = none) (hk : (opReqZ P Γ base ev o.op).pre h K) :
  o.wp P a w (Came μ h w base (opReqZ P Γ base ev o.op).wr o.dst a K) Q:=op_sound hΓ hm hev hf hk
end
end Zx
