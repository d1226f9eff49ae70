/- A part of the proof: lemmas. No condition of its own. -/
import Derived.WalkKit
import Derived.Test.YtglcgbhhkjebbaaGreatK00
import Derived.Test.YtglcgbhhkjebbaaGreatK04
import Derived.Test.YtglcgbhhkjebbaaGreatK06
set_option linter.unusedVariables false
set_option linter.unusedSimpArgs false
namespace Zx
noncomputable section
open Go
def AllC (sg : Nat -> Nat -> Option CS) : List CS -> List Value -> Prop
 | [],[]=>True
 | c :: cs,v :: vs=>c.ok sg v /\ AllC sg cs vs
 | _,_=>False
theorem AllC.get {sg : Nat -> Nat -> Option CS} : ∀ {cs : List CS} {vs : List Value},AllC sg cs vs -> ∀ (i : Nat) (c : CS) (v : Value),cs[i]? = some c -> vs[i]? = some v -> c.ok sg v
 | [],_,_,_,_,_,h,_=>by simp at h
 | _ :: _,_ :: _,hh,0,c,v,h,k=>by simp at h k;subst h;subst k;exact hh.1
 | _ :: _,_ :: _,hh,i + 1,c,v,h,k=>hh.2.get i c v (by simpa using h) (by simpa using k)
 | _ :: _,[],hh,_,_,_,_,_=>hh.elim
theorem AllC.len {sg : Nat -> Nat -> Option CS} : ∀ {cs : List CS} {vs : List Value},AllC sg cs vs -> vs.length = cs.length
 | [],[],_=>rfl
 | _ :: _,_ :: _,hh=>by simp [hh.2.len]
 | [],_ :: _,hh=>hh.elim
 | _ :: _,[],hh=>hh.elim
theorem zone_cells {sg : Nat -> Nat -> Option CS} {w : World} (hz : ZoneOk sg w) : ∀ {L : List CS} {b o : Nat},Sits sg b o L -> ∃ vs,AllC sg L vs /\ ∀ (x : Nat) (v : Value),vs[x]? = some v -> w.cell? ⟨b,o + x,none⟩ = some v
 | [],_,_,_=>⟨[],trivial,fun x v h=>by simp at h⟩
 | c :: L,b,o,hs=>by
  obtain ⟨cur,t,v,h1,h2,h3⟩:=hz b o c (by simpa using hs 0 c rfl)
  obtain ⟨vs,g1,g2⟩:=zone_cells hz (L:=L) (b:=b) (o:=o + 1) fun j c' hj=>by
   have:=hs (j + 1) c' (by simpa using hj)
   rw [show o + 1 + j = o + (j + 1) by omega];exact this
  refine ⟨v :: vs,⟨h3.1,g1⟩,fun x u hx=>?_⟩
  cases x with
  | zero=>simp at hx;subst hx;simp [World.cell?,h1,h2]
  | succ x=>
   have:=g2 x u (by simpa using hx)
   rw [show o + (x + 1) = o + 1 + x by omega];exact this
theorem Sits.take {sg : Nat -> Nat -> Option CS} {b o : Nat} {L : List CS} (n : Nat) (hs : Sits sg b o L) : Sits sg b o (L.take n):=fun j c hc=>hs j c (by
 rw [List.getElem?_take] at hc
 split at hc
 ·exact hc
 ·cases hc)
theorem Sits.drop {sg : Nat -> Nat -> Option CS} {b o : Nat} {L : List CS} (n : Nat) (hs : Sits sg b o L) : Sits sg b (o + n) (L.drop n):=fun j c hc=>by
 rw [List.getElem?_drop] at hc
 have:=hs (n + j) c hc
 rw [show o + n + j = o + (n + j) by omega];exact this
theorem splice_cells {cur : Array Value} {us : List Value} {o x : Nat} (h : o + us.length <= cur.size) : (cur.toList.take (o + 0) ++ us ++ cur.toList.drop (o + 0 + us.length)).toArray[x]? = if x < o then cur[x]? else if x < o + us.length then us[x - o]? else cur[x]?:=by
 simp only [List.getElem?_toArray,Nat.add_zero]
 rw [splice_get _ _ _ _ (by simpa using h)]
 simp
theorem Eff.zwrite {μ : Mu} {h : Nat -> Option Blk} {w : World} {base b o : Nat} {t : TF} {cur : Array Value} {us : List Value} {L : List CS} (hm : HeapM μ h w) (hb : w.heap[b]? = some (.cells cur t.1 t.2)) (hs : Sits μ.sig b o L)
  (hl : us.length <= L.length) (hus : AllC μ.sig (L.take us.length) us) (hlen : o + us.length <= cur.size) (hne : us ≠ []) :
  Eff μ μ h w base [] ⟨.u,[],[]⟩ undef (w.setRow b (cur.toList.take (o + 0) ++ us ++ cur.toList.drop (o + 0 + us.length)).toArray) where
 ext:=Ext.refl μ
 dom:=fun _ _ h=>.inl h
 val:=trivial
 os:=rfl
 tape:=rfl
 output:=rfl
 size:=by simp [World.setRow]
 keep:=fun x _ _ hz=>setRow_keep w b x _ fun e=>by
  subst e
  match us,hne with
  | u :: us,_=>
   match L,hl with
   | c :: L,_=>
    have:=hs 0 c rfl
    rw [hz] at this;cases this
   | [],hl=>simp at hl
 wrs:=List.nodup_nil
 wsl:=rfl
 nsl:=by simp
 olds:=fun j n b' h=>by simp at h
 news:=fun j b h=>by simp at h
 newsApart:=fun j k b c l m x _ h=>by simp at h
 zone:=fun b' o' c' hs'=>by
  obtain ⟨cur',t',v,g1,g2,g3⟩:=hm.zone b' o' c' hs'
  by_cases e : b' = b
  ·subst e
   obtain ⟨rfl,rfl⟩:=cells_inj hb g1
   by_cases hin : o <= o' /\ o' < o + us.length
   ·have hj : o' - o < us.length:=by omega
    obtain ⟨u,hu⟩ : ∃ u,us[o' - o]? = some u:=⟨_,List.getElem?_eq_getElem hj⟩
    obtain ⟨c2,hc2⟩ : ∃ c2,L[o' - o]? = some c2:=⟨_,List.getElem?_eq_getElem (by omega)⟩
    have h1:=hs (o' - o) c2 hc2
    rw [show o + (o' - o) = o' by omega,hs'] at h1
    cases h1
    refine ⟨_,t,u,setRow_heap w b' _ _ t.1 _ hb, ?_,hus.get (o' - o) c' u ?_ hu,g3.2⟩
    ·rw [splice_cells hlen,if_neg (by omega),if_pos (by omega)];exact hu
    ·rw [List.getElem?_take,if_pos hj];exact hc2
   ·refine ⟨_,t,v,setRow_heap w b' _ _ t.1 _ hb, ?_,g3⟩
    rw [splice_cells hlen]
    by_cases h1 : o' < o
    ·rw [if_pos h1];exact g2
    ·rw [if_neg h1,if_neg (by omega)];exact g2
  ·exact ⟨cur',t',v,(setRow_keep w b b' _ e).trans g1,g2,g3⟩
 zgrow:=fun x o c hs=>.inl ⟨o,c,hs⟩
 zold:=fun j n b' l x o h=>by simp at h
 znew:=fun j b l x o h=>by simp at h
theorem sits_room {sg : Nat -> Nat -> Option CS} {w : World} (hz : ZoneOk sg w) {b o n : Nat} {L : List CS} (hs : Sits sg b o L) (hn : n <= L.length) (h0 : n ≠ 0) : ∃ (cur : Array Value) (t : TF),w.heap[b]? = some (.cells cur t.1 t.2) /\ o + n <= cur.size /\ ∀ j,j < n -> NF t.2 (o + j):=by
 obtain ⟨c,hc⟩ : ∃ c,L[n - 1]? = some c:=⟨_,List.getElem?_eq_getElem (by omega)⟩
 obtain ⟨cur,t,v,g1,g2,_⟩:=hz b (o + (n - 1)) c (hs _ _ hc)
 have:=(Array.getElem?_eq_some_iff.1 g2).1
 refine ⟨cur,t,g1,by omega,fun j hj=>?_⟩
 obtain ⟨c2,hc2⟩ : ∃ c,L[j]? = some c:=⟨_,List.getElem?_eq_getElem (by omega)⟩
 obtain ⟨cur2,t2,v2,k1,k2,_,k4⟩:=hz b (o + j) c2 (hs _ _ hc2)
 obtain ⟨rfl,rfl⟩:=cells_inj g1 k1
 exact k4
theorem run_storeCells_nf (P : Program) (g o : Nat) (t : TF) : ∀ (vs : List Value) (i : Nat) (cur : Array Value) (w : World),w.heap[g]? = some (.cells cur t.1 t.2) -> (∀ j,j < vs.length -> NF t.2 (o + i + j)) -> o + i + vs.length <= cur.size -> (∀ v ∈ vs,v.oneCell' = true) →
  (storeCells ⟨g,o,none⟩ vs i).run P w = .ok () (w.setRow g (cur.toList.take (o + i) ++ vs ++ cur.toList.drop (o + i + vs.length)).toArray)
 | [],i,cur,w,hg,_,_,_=>by
  simp only [storeCells,List.append_nil,List.length_nil,Nat.add_zero,List.take_append_drop,Array.toArray_toList]
  rw [setRow_self w g cur t.1 t.2 hg]
  rfl
 | v :: rest,i,cur,w,hg,hnf,hl,h1=>by
  have hi : o + i < cur.size:=by simp at hl;omega
  have hcell : w.cell? ⟨g,o + i,none⟩ = some cur[o + i]:=by simp [World.cell?,hg,hi]
  have hfro : w.frozen? ⟨g,o + i,none⟩ = false:=by
   have h0:=hnf 0 (by simp)
   obtain ⟨t1,lo,hi'⟩:=t
   simp only [NF,Nat.add_zero] at h0
   simp only [World.frozen?,hg,Bool.and_eq_false_iff,decide_eq_false_iff_not]
   omega
  have hst : (store ((⟨g,o,none⟩ : Addr).add i) v).run P w = .ok () (w.setRow g (cur.setIfInBounds (o + i) v)):=by
   rw [show (⟨g,o,none⟩ : Addr).add i = ⟨g,o + i,none⟩ by unfold Addr.add;split <;> simp_all,run_store P w _ v _ (h1 v (by simp)),hcell]
   simp [hfro,setCell_eq_setRow w g (o + i) cur t.1 t.2 v hg]
  have ih:=run_storeCells_nf P g o t rest (i + 1) (cur.setIfInBounds (o + i) v) (w.setRow g (cur.setIfInBounds (o + i) v)) (setRow_heap w g cur _ t.1 _ hg) (fun j hj=>by rw [show o + (i + 1) + j = o + i + (j + 1) by omega];exact hnf (j + 1) (by simpa using hj)) (by simp at hl ⊢;omega) (fun x hx=>h1 x (by simp [hx]))
  simp only [storeCells,Sem.run_bind,hst,Result.andThen_ok,ih,setRow_setRow]
  congr 3
  simpa [Array.toList_setIfInBounds,Nat.add_assoc] using list_seg_step cur.toList (o + i) v rest (by simp at hl ⊢;omega)
end
end Zx
namespace Zx
noncomputable section
open Go
def perGo (E : List CS) : Nat -> List CS -> Bool
 | 0,_=>true
 | n + 1,L=>preCS E L && perGo E n (L.drop E.length)
theorem perGo_get {E : List CS} : ∀ {n : Nat} {L : List CS},perGo E n L = true -> ∀ i,i < n -> preCS E (L.drop (i * E.length)) = true
 | 0,_,_,i,hi=>absurd hi (Nat.not_lt_zero i)
 | n + 1,L,h,0,_=>by
  simp only [perGo,Bool.and_eq_true] at h
  simpa using h.1
 | n + 1,L,h,i + 1,hi=>by
  simp only [perGo,Bool.and_eq_true] at h
  have:=perGo_get h.2 i (by omega)
  rw [List.drop_drop] at this
  rw [show (i + 1) * E.length = E.length + i * E.length by rw [Nat.add_mul];omega]
  exact this
theorem Sits.per {sg : Nat -> Nat -> Option CS} {b o n i : Nat} {L E : List CS} (hs : Sits sg b o L) (h : perGo E n L = true) (hi : i < n) : Sits sg b (o + i * E.length) E:=
 (hs.drop (i * E.length)).pre (perGo_get h i hi)
end
end Zx
namespace Zx
noncomputable section
open Go
def zsig (sg : Nat -> Nat -> Option CS) (b : Nat) (E : List CS) (N : Nat) : Nat -> Nat -> Option CS:=fun b' o=>if b' = b then (if o < N * E.length then E[o % E.length]? else none) else sg b' o
def zadd (μ : Mu) (b : Nat) (E : List CS) (N : Nat) : Mu:={ μ with sig:=zsig μ.sig b E N }
theorem zsig_grows {sg : Nat -> Nat -> Option CS} {w : World} (hz : ZoneOk sg w) (E : List CS) (N : Nat) : Grows sg (zsig sg w.heap.size E N):=fun b o c hc=>by
 have:=hz.lt hc
 unfold zsig
 rw [if_neg (by omega)]
 exact hc
theorem zsig_sits {sg : Nat -> Nat -> Option CS} {b : Nat} {E : List CS} {N i : Nat} (hi : i < N) : Sits (zsig sg b E N) b (i * E.length) E:=fun j c hc=>by
 have hj : j < E.length:=(List.getElem?_eq_some_iff.1 hc).1
 have h1 : i * E.length + E.length <= N * E.length:=by
  have:=Nat.mul_le_mul_right E.length (show i + 1 <= N from hi)
  rw [Nat.add_mul] at this
  omega
 unfold zsig
 rw [if_pos rfl,if_pos (by omega),Nat.mul_comm,Nat.mul_add_mod,Nat.mod_eq_of_lt hj]
 exact hc
theorem Eff.zrow {μ : Mu} {h : Nat -> Option Blk} {w w' : World} {base : Nat} {arr : Array Value} {t : TypeId} {E : List CS} {N : Nat} {sv : SV} {v : Value} (hm : HeapM μ h w) (hw : w'.heap = w.heap.push (.cells arr t)) (hos : w'.os = w.os) (htp : w'.tape = w.tape) (hou : w'.output = w.output)
  (hty : ∀ i j c,i < N -> E[j]? = some c -> ∃ u,arr[i * E.length + j]? = some u /\ c.ok μ.sig u) (hv : sv.ok (zadd μ w.heap.size E N) v) : Eff μ (zadd μ w.heap.size E N) h w base [] ⟨sv,[],[]⟩ v w' where
 ext:=⟨fun _ _ h=>h,zsig_grows hm.zone E N⟩
 dom:=fun _ _ h=>.inl h
 val:=hv
 os:=hos
 tape:=htp
 output:=hou
 size:=by rw [hw];simp
 keep:=fun x hx _ _=>by rw [hw,Array.getElem?_push,if_neg (by omega)]
 wrs:=List.nodup_nil
 wsl:=rfl
 nsl:=by simp
 olds:=fun j n b' h=>by simp at h
 news:=fun j b h=>by simp at h
 newsApart:=fun j k b c l m x _ h=>by simp at h
 zone:=fun b o c hc=>by
  by_cases e : b = w.heap.size
  ·subst e
   simp only [zadd,zsig,if_true] at hc
   split at hc
   ·rename_i hlt
    have hE : 0 < E.length:=by
     rcases Nat.eq_zero_or_pos E.length with h0 | h0
     ·rw [h0] at hlt;omega
     ·exact h0
    obtain ⟨u,hu,hok⟩:=hty (o / E.length) (o % E.length) c (Nat.div_lt_of_lt_mul (by rw [Nat.mul_comm];exact hlt)) hc
    rw [show o / E.length * E.length + o % E.length = o from Nat.div_add_mod' o E.length] at hu
    exact ⟨arr,(t,(0,0)),u,by rw [hw];simp,hu,CS.ok_grow (zsig_grows hm.zone E N) hok,NF.z⟩
   ·cases hc
  ·simp only [zadd,zsig] at hc
   rw [if_neg e] at hc
   obtain ⟨cur,t',u,h1,h2,h3⟩:=hm.zone b o c hc
   exact ⟨cur,t',u,by rw [hw,Array.getElem?_push,if_neg e];exact h1,h2,CS.ok_grow (zsig_grows hm.zone E N) h3.1,h3.2⟩
 zgrow:=fun x o c hc=>by
  by_cases e : x = w.heap.size
  ·exact .inr (.inl (by omega))
  ·simp only [zadd,zsig] at hc
   rw [if_neg e] at hc
   exact .inl ⟨o,c,hc⟩
 zold:=fun j n b' l x o h=>by simp at h
 znew:=fun j b l x o h=>by simp at h
end
end Zx
namespace Zx
noncomputable section
open Go
def RowC (sg : Nat -> Nat -> Option CS) (E : List CS) (n : Nat) (vs : List Value) : Prop:=
 vs.length = n * E.length /\ ∀ i j c,i < n -> E[j]? = some c -> ∃ u,vs[i * E.length + j]? = some u /\ c.ok sg u
theorem row_in {e n i j : Nat} (hi : i < n) (hj : j < e) : i * e + j < n * e:=by
 have:=Nat.mul_le_mul_right e (show i + 1 <= n from hi)
 rw [Nat.add_mul] at this
 omega
theorem RowC.append {sg : Nat -> Nat -> Option CS} {E : List CS} {n m : Nat} {vs us : List Value} (h : RowC sg E n vs) (k : RowC sg E m us) : RowC sg E (n + m) (vs ++ us):=by
 refine ⟨by rw [List.length_append,h.1,k.1,Nat.add_mul],fun i j c hi hj=>?_⟩
 have hje : j < E.length:=(List.getElem?_eq_some_iff.1 hj).1
 by_cases hin : i < n
 ·obtain ⟨u,hu,hok⟩:=h.2 i j c hin hj
  have:=row_in hin hje
  exact ⟨u,by rw [List.getElem?_append_left (by rw [h.1];exact this)];exact hu,hok⟩
 ·obtain ⟨u,hu,hok⟩:=k.2 (i - n) j c (by omega) hj
  refine ⟨u, ?_,hok⟩
  have e1 : i * E.length = n * E.length + (i - n) * E.length:=by rw [← Nat.add_mul];congr 1;omega
  rw [List.getElem?_append_right (by rw [h.1,e1];omega),h.1,← hu]
  congr 1
  omega
theorem RowC.nil (sg : Nat -> Nat -> Option CS) (E : List CS) : RowC sg E 0 []:=⟨by simp,fun i j c hi=>absurd hi (Nat.not_lt_zero i)⟩
theorem RowC.one {sg : Nat -> Nat -> Option CS} {E : List CS} {vs : List Value} (h : AllC sg E vs) : RowC sg E 1 vs:=by
 refine ⟨by rw [h.len];omega,fun i j c hi hj=>?_⟩
 have hj' : j < vs.length:=by rw [h.len];exact (List.getElem?_eq_some_iff.1 hj).1
 obtain rfl : i = 0:=by omega
 exact ⟨vs[j],by simp [hj'],h.get j c _ hj (by simp [hj'])⟩
theorem zrow_read {sg : Nat -> Nat -> Option CS} {w : World} (hz : ZoneOk sg w) {E : List CS} {b o : Nat} : ∀ {n : Nat},(∀ i,i < n -> Sits sg b (o + i * E.length) E) -> ∃ vs,RowC sg E n vs /\ ∀ (x : Nat) (v : Value),vs[x]? = some v -> w.cell? ⟨b,o + x,none⟩ = some v
 | 0,_=>⟨[],RowC.nil sg E,fun x v h=>by simp at h⟩
 | n + 1,hs=>by
  obtain ⟨vs,h1,h2⟩:=zrow_read hz (n:=n) fun i hi=>hs i (by omega)
  obtain ⟨us,k1,k2⟩:=zone_cells hz (hs n (Nat.lt_succ_self n))
  refine ⟨vs ++ us,h1.append (RowC.one k1),fun x v hx=>?_⟩
  rcases Nat.lt_or_ge x vs.length with hlt | hge
  ·rw [List.getElem?_append_left hlt] at hx;exact h2 x v hx
  ·rw [List.getElem?_append_right hge] at hx
   have:=k2 _ v hx
   rw [h1.1] at this hge
   rw [← this]
   congr 2
   omega
theorem RowC.oneCell {sg : Nat -> Nat -> Option CS} {E : List CS} {n : Nat} {vs : List Value} (h : RowC sg E n vs) : ∀ u ∈ vs,u.oneCell' = true:=fun u hu=>by
 obtain ⟨x,hx⟩:=List.getElem?_of_mem hu
 have hlt:=(List.getElem?_eq_some_iff.1 hx).1
 rw [h.1] at hlt
 have hE : 0 < E.length:=by
  rcases Nat.eq_zero_or_pos E.length with h0 | h0
  ·rw [h0] at hlt;omega
  ·exact h0
 obtain ⟨c,hc⟩ : ∃ c,E[x % E.length]? = some c:=⟨_,List.getElem?_eq_getElem (Nat.mod_lt _ hE)⟩
 obtain ⟨u',hu',hok⟩:=h.2 (x / E.length) (x % E.length) c (Nat.div_lt_of_lt_mul (by rw [Nat.mul_comm];exact hlt)) hc
 rw [show x / E.length * E.length + x % E.length = x from Nat.div_add_mod' x E.length,hx] at hu'
 cases hu'
 cases c with
 | int k lo hi=>obtain ⟨n,rfl,_⟩:=hok;rfl
 | bool=>obtain ⟨b,rfl⟩:=hok;rfl
 | str=>obtain ⟨s,rfl⟩:=hok;rfl
 | ptr nm nn=>
  rcases hok with ⟨_,rfl⟩ | ⟨b,o,rfl,_⟩
  ·rfl
  ·rfl
 | sli nm=>obtain ⟨a,n,c,rfl,_⟩:=hok;rfl
theorem Sits.rep {sg : Nat -> Nat -> Option CS} {b : Nat} {E : List CS} : ∀ {m o : Nat},(∀ i,i < m -> Sits sg b (o + i * E.length) E) -> Sits sg b o (List.replicate m E).flatten
 | 0,o,_=>fun j c hc=>by simp at hc
 | m + 1,o,hs=>fun j c hc=>by
  rw [List.replicate_succ,List.flatten_cons] at hc
  rcases Nat.lt_or_ge j E.length with hlt | hge
  ·rw [List.getElem?_append_left hlt] at hc
   have:=hs 0 (Nat.succ_pos m) j c hc
   simpa using this
  ·rw [List.getElem?_append_right hge] at hc
   have:=Sits.rep (m:=m) (o:=o + E.length) (fun i hi=>by
    have:=hs (i + 1) (by omega)
    rw [Nat.add_mul,Nat.one_mul] at this
    rw [show o + E.length + i * E.length = o + (i * E.length + E.length) by omega];exact this) (j - E.length) c hc
   rw [show o + j = o + E.length + (j - E.length) by omega];exact this
theorem RowC.flat {sg : Nat -> Nat -> Option CS} {E : List CS} : ∀ {m : Nat} {us : List Value},RowC sg E m us -> AllC sg (List.replicate m E).flatten us
 | 0,us,h=>by
  have : us = []:=List.eq_nil_of_length_eq_zero (by rw [h.1];simp)
  subst this
  trivial
 | m + 1,us,h=>by
  have hl:=h.1
  have e1 : us = us.take E.length ++ us.drop E.length:=(List.take_append_drop _ _).symm
  have app : ∀ {A B : List CS} {x y : List Value},AllC sg A x -> AllC sg B y -> AllC sg (A ++ B) (x ++ y):=fun {A B x y} ha hb=>by
   induction A generalizing x with
   | nil=>cases x with
    | nil=>exact hb
    | cons _ _=>exact ha.elim
   | cons a A ih=>cases x with
    | nil=>exact ha.elim
    | cons u x=>exact ⟨ha.1,ih ha.2⟩
  rw [List.replicate_succ,List.flatten_cons,e1]
  refine app ?_ (RowC.flat (m:=m) ⟨by rw [List.length_drop,hl,Nat.add_mul];omega,fun i j c hi hj=>?_⟩)
  ·have hlen : (us.take E.length).length = E.length:=by rw [List.length_take,hl,Nat.add_mul];omega
   have of : ∀ {A : List CS} {x : List Value},x.length = A.length -> (∀ (j : Nat) (c : CS),A[j]? = some c -> ∃ u,x[j]? = some u /\ c.ok sg u) -> AllC sg A x:=fun {A}=>by
    induction A with
    | nil=>intro x hx _;cases x with
     | nil=>trivial
     | cons _ _=>simp at hx
    | cons a A ih=>intro x hx hg;cases x with
     | nil=>simp at hx
     | cons u x=>
      obtain ⟨u',hu',hok⟩:=hg 0 a rfl
      simp at hu'
      subst hu'
      exact ⟨hok,ih (by simpa using hx) fun j c hc=>by simpa using hg (j + 1) c (by simpa using hc)⟩
   refine of hlen fun j c hj=>?_
   have hje : j < E.length:=(List.getElem?_eq_some_iff.1 hj).1
   obtain ⟨u,hu,hok⟩:=h.2 0 j c (Nat.succ_pos m) hj
   exact ⟨u,by rw [List.getElem?_take,if_pos hje];simpa using hu,hok⟩
  ·obtain ⟨u,hu,hok⟩:=h.2 (i + 1) j c (by omega) hj
   refine ⟨u, ?_,hok⟩
   rw [List.getElem?_drop,← hu]
   congr 1
   rw [Nat.add_mul];omega
def zeroC (c : CS) (v : Value) : Bool:=
 match c,v with
 | .int _ k lo hi,.int k' n=>decide (k = k') && (decide (hi < lo) || (decide (lo <= n) && decide (n <= hi)))
 | .bool _,.bool _=>true
 | .str _,.string _=>true
 | .ptr _ _ nn,.pointer a=>(nn == false) && a.isNone
 | .sli _ _ _,.slice _ n c=>Nat.beq n 0 && Nat.beq c 0
 | _,_=>false
def zeroL : List CS -> List Value -> Bool
 | [],[]=>true
 | c :: cs,v :: vs=>zeroC c v && zeroL cs vs
 | _,_=>false
theorem zeroC_ok {sg : Nat -> Nat -> Option CS} {c : CS} {v : Value} (h : zeroC c v = true) : c.ok sg v:=by
 unfold zeroC at h
 split at h
 ·simp only [Bool.and_eq_true,Bool.or_eq_true,decide_eq_true_eq] at h
  obtain ⟨rfl,h1⟩:=h
  exact ⟨_,rfl,h1⟩
 ·exact ⟨_,rfl⟩
 ·exact ⟨_,rfl⟩
 ·rename_i g nm nn a
  simp only [Bool.and_eq_true,beq_iff_eq] at h
  obtain ⟨rfl,h2⟩:=h
  cases a with
  | none=>exact .inl ⟨rfl,rfl⟩
  | some a=>simp at h2
 ·rename_i g nm mx a n c
  simp only [Bool.and_eq_true] at h
  have h1:=Nat.eq_of_beq_eq_true h.1
  have h2:=Nat.eq_of_beq_eq_true h.2
  subst h1;subst h2
  exact ⟨a,0,0,rfl,Nat.le_refl _,Nat.zero_le _,Nat.zero_le _,fun hc=>absurd hc (by omega)⟩
 ·cases h
theorem zeroL_ok {sg : Nat -> Nat -> Option CS} : ∀ {cs : List CS} {vs : List Value},zeroL cs vs = true -> AllC sg cs vs
 | [],[],_=>trivial
 | c :: cs,v :: vs,h=>by
  simp only [zeroL,Bool.and_eq_true] at h
  exact ⟨zeroC_ok h.1,zeroL_ok h.2⟩
 | [],_ :: _,h=>by simp [zeroL] at h
 | _ :: _,[],h=>by simp [zeroL] at h
theorem made_row {sg : Nat -> Nat -> Option CS} {E : List CS} {z : Array Value} (h : AllC sg E z.toList) (N : Nat) : RowC sg E N ((Array.range (N * z.size)).map fun i=>z[i % z.size]!).toList:=by
 have hl : z.size = E.length:=by have:=h.len;simpa using this
 refine ⟨by simp [hl],fun i j c hi hj=>?_⟩
 have hje : j < E.length:=(List.getElem?_eq_some_iff.1 hj).1
 have hin:=row_in hi hje
 have hz : z[j]? = some z[j]!:=by
  rw [getElem!_pos z j (by omega)];simp [hl,hje]
 refine ⟨z[j]!, ?_,h.get j c _ hj (by simpa using hz)⟩
 rw [Array.getElem?_toList,Array.getElem?_map]
 simp only [hl]
 rw [show (Array.range (N * E.length))[i * E.length + j]? = some (i * E.length + j) by simp [hin]]
 simp only [Option.map_some,Option.some.injEq]
 rw [show (i * E.length + j) % E.length = j by rw [Nat.mul_comm,Nat.mul_add_mod,Nat.mod_eq_of_lt hje]]
end
end Zx
namespace Zx
noncomputable section
open Go
def zelem (P : Program) (t : TypeId) : Option (TypeId × TypeInfo × List CS):=
 match P.underlying t with
 | some (.slice el)=>match P.info? el with
  | some inf=>match inf.zero with
   | some z=>if (zTab el).length = inf.size /\ 0 < inf.size /\ 0 < inf.bytes /\ zeroL (zTab el) z.cells.toList = true then some (el,inf,zTab el) else none
   | none=>none
  | none=>none
 | _=>none
theorem zelem_ok {P : Program} {t el : TypeId} {inf : TypeInfo} {E : List CS} (h : zelem P t = some (el,inf,E)) :
  P.underlying t = some (.slice el) /\ P.info? el = some inf /\ E = zTab el /\ E.length = inf.size /\ 0 < inf.size /\ 0 < inf.bytes /\ ∃ z,inf.zero = some z /\ ∀ sg,AllC sg E z.cells.toList:=by
 unfold zelem at h
 split at h
 ·rename_i el' hu
  split at h
  ·rename_i inf' hi
   split at h
   ·rename_i z hz
    split at h
    ·rename_i hc
     cases h
     exact ⟨hu,hi,rfl,hc.1,hc.2.1,hc.2.2.1,z,hz,fun sg=>zeroL_ok hc.2.2.2⟩
    ·cases h
   ·cases h
  ·cases h
 ·cases h
def lenZ (E : List CS) (x : SV) : Option Nat:=
 match x with
 | .s (.c (.zs F n _ _))=>if eqCS F E then some n else none
 | .s (.c .nos)=>some 0
 | _=>none
theorem lenZ_ok {μ : Mu} {E : List CS} {x : SV} {n : Nat} {u : Value} (h : lenZ E x = some n) (hx : x.ok μ u) : ∃ a c,u = .slice a n c /\ n <= c /\ c <= maxLen /\ SitsN μ.sig a c E:=by
 unfold lenZ at h
 split at h
 ·split at h
  ·rename_i he
   cases h
   obtain ⟨a,rfl,h1,h2,h3⟩:=hx
   rw [eqCS_eq he] at h3
   exact ⟨a,_,rfl,h1,h2,h3⟩
  ·cases h
 ·cases h
  obtain ⟨a,rfl⟩:=hx
  exact ⟨a,0,rfl,Nat.le_refl _,Nat.zero_le _,fun hc=>absurd hc (by omega)⟩
 ·cases h
def isU8 : List CS -> Bool
 | [.int _ .u8 lo hi]=>decide (lo <= 0) && decide (255 <= hi)
 | _=>false
def srcZ (P : Program) (tx : TypeId) (E : List CS) (y : SV) : Option Nat:=
 match P.underlying tx,y with
 | some (.slice _),y=>lenZ E y
 | some .string,.s (.c (.str s))=>if isU8 E then some s.size else none
 | _,_=>none
theorem srcZ_ok {P : Program} {μ : Mu} {w : World} {E : List CS} {y : SV} {m : Nat} {v : Value} {tx : TypeId} {e : Nat} (he : E.length = e) (hz : ZoneOk μ.sig w) (h : srcZ P tx E y = some m) (hy : y.ok μ v) : ∃ news,Src P e tx v m news w /\ RowC μ.sig E m news:=by
 subst he
 unfold srcZ at h
 split at h
 ·rename_i el' hu
  obtain ⟨a,c,rfl,h1,h2,h3⟩:=lenZ_ok h hy
  rcases Nat.eq_zero_or_pos m with rfl | hpos
  ·refine ⟨[], ?_,RowC.nil _ _⟩
   cases a with
   | none=>exact Src.ofNil w hu c
   | some a=>exact Src.ofSlice w hu a 0 c [] (by simp) (fun j u hj=>by simp at hj) (fun u hu=>by cases hu)
  ·obtain ⟨b,o,rfl,hs⟩:=h3 (by omega)
   obtain ⟨vs,g1,g2⟩:=zrow_read hz (n:=m) (b:=b) (o:=o) fun i hi=>hs i (by omega)
   exact ⟨vs,Src.ofSlice w hu ⟨b,o,none⟩ m c vs g1.1 (fun j u hj=>by rw [Addr.add_lit'];exact g2 j u hj) g1.oneCell,g1⟩
 ·rename_i s hu
  split at h
  ·rename_i hE
   cases h
   have hv : v = .string s:=hy
   subst hv
   unfold isU8 at hE
   split at hE
   ·rename_i g lo hi
    simp only [Bool.and_eq_true,decide_eq_true_eq] at hE
    refine ⟨byteCells s,Src.ofString w hu s,by rw [byteCells_length];simp,fun i j c hi' hj=>?_⟩
    match j,hj with
    | 0,hj=>
     simp at hj
     subst hj
     have hlt : i < s.data.toList.length:=by rw [Array.length_toList];exact hi'
     refine ⟨.int .u8 (s.data.toList[i]).toNat,by simp [byteCells];exact ⟨_,Array.getElem?_eq_getElem (by simpa using hlt),rfl⟩,_,rfl,.inr ⟨by omega, ?_⟩⟩
     have:=(s.data.toList[i]).toNat_lt
     omega
    | j + 1,hj=>simp at hj
   ·cases hE
  ·cases h
 ·cases h
theorem run_app0 {P : Program} {w : World} {t tx ty el : TypeId} {inf : TypeInfo} {a : Option Addr} {n c : Nat} {v : Value} (hu : P.underlying t = some (.slice el)) (hi : P.info? el = some inf) (hs : Src P inf.size tx v 0 [] w) (hnc : n <= c) :
  (Builtin.append_ #[t,tx] ty #[.slice a n c,v]).run P w = .ok (.slice a n c) w:=by
 have hc1:=hs.cells
 rcases hs.kind with ⟨e',hk'⟩ | hk' <;> cases a <;> simp [Builtin.append_,run_underlying hu,run_underlying hk',Go.sizeOf,typeInfo,hi,hs.len,hnc,hc1,storeCells]
end
end Zx
namespace Zx
noncomputable section
open Go
theorem RowC.splice {sg : Nat -> Nat -> Option CS} {E : List CS} {n i0 : Nat} {xs us : List Value} (h : RowC sg E n xs) (hi : i0 < n) (hu : AllC sg E us) : RowC sg E n (xs.take (i0 * E.length) ++ us ++ xs.drop (i0 * E.length + us.length)):=by
 have hul:=hu.len
 have hb : i0 * E.length + E.length <= n * E.length:=by
  have:=Nat.mul_le_mul_right E.length (show i0 + 1 <= n from hi)
  rw [Nat.add_mul] at this
  omega
 have hlen : i0 * E.length + us.length <= xs.length:=by rw [h.1,hul];exact hb
 refine ⟨?_,fun i j c hi' hj=>?_⟩
 ·have:=h.1
  simp
  omega
 ·have hje : j < E.length:=(List.getElem?_eq_some_iff.1 hj).1
  have hin:=row_in hi' hje
  rw [splice_get xs us (i0 * E.length) (i * E.length + j) hlen]
  by_cases e : i = i0
  ·subst e
   rw [if_neg (by omega),if_pos (by omega)]
   have hj' : j < us.length:=by omega
   refine ⟨us[j], ?_,hu.get j c _ hj (by simp [hj'])⟩
   rw [show i * E.length + j - i * E.length = j by omega]
   simp [hj']
  ·obtain ⟨u,g1,g2⟩:=h.2 i j c hi' hj
   refine ⟨u, ?_,g2⟩
   rcases Nat.lt_or_ge i i0 with hlt | hge
   ·have:=row_in (n:=i0) (e:=E.length) hlt hje
    rw [if_pos this];exact g1
   ·have h2 : i0 * E.length + E.length <= i * E.length:=by
     have:=Nat.mul_le_mul_right E.length (show i0 + 1 <= i by omega)
     rw [Nat.add_mul] at this
     omega
    rw [if_neg (by omega),if_neg (by omega)];exact g1
end
end Zx
namespace Zx.Zr
open Go
structure St where
 ep : Int
 op : Bool
 nx : Int
 nd : Int
 hv : Int
 bn : Int
def goodS (s : St) : Bool:=
 decide (0 <= s.ep /\ s.ep <= 65535) && (if s.op then decide (s.ep < s.nx /\ s.nx <= 65535 /\ 1 <= s.nd /\ s.nd <= 255) && (bits .andNot .i64 s.hv s.nd == 0 && s.hv != s.nd) else (s.nx == 0 && s.nd == 0 && s.hv == 0 && s.bn == 0))
def slB (i : Int) : Bool:=decide (0 <= i /\ i < 8)
def comS (s : St) : Int:=if s.op then s.nx else s.ep
def needB (n : Int) : Bool:=decide (0 <= n /\ n <= 255)
def raiseF (s : St) (need now : Int) : St × Int:=
 if goodS s && needB need then (if 65535 < comS s + 1 then (s,11) else if need = 0 then (⟨comS s + 1,false,0,0,0,0⟩,0) else (⟨s.ep,true,comS s + 1,need,0,now⟩,0)) else (s,1)
def bitZ (x i : Int) : Bool:=bits .and .i64 (x / 2 ^ i.toNat) 1 == 0
def bitO (x i : Int) : Bool:=bits .and .i64 (x / 2 ^ i.toNat) 1 == 1
def joinF (s : St) (i : Int) : St × Int:=
 if goodS s && slB i then (if s.op then (if bitO s.nd i then (s,7) else (⟨s.ep,s.op,s.nx,bits .or .i64 s.nd (2 ^ i.toNat),s.hv,s.bn⟩,0)) else (s,0)) else (s,1)
def ackF (s : St) (i e : Int) : St × Bool × Int:=
 if goodS s && slB i then (if s.op && s.nx == e then (if bitZ s.nd i then (s,false,6) else if bitO s.hv i then (s,false,7)
  else if bits .or .i64 s.hv (2 ^ i.toNat) == s.nd then (⟨s.nx,false,0,0,0,0⟩,true,0) else (⟨s.ep,s.op,s.nx,s.nd,bits .or .i64 s.hv (2 ^ i.toNat),s.bn⟩,false,0)) else (s,false,12)) else (s,false,1)
def longB (b now : Int) : Bool:=decide (b <= now) && decide (200 <= IntKind.u64.wrap (IntKind.u64.wrap now - IntKind.u64.wrap b))
def lateF (s : St) (now : Int) : Int:=if goodS s && s.op && longB s.bn now then bits .andNot .i64 s.nd s.hv else 0
abbrev jB (l : List Bool) : List Bool:=[l.getD 0 false,l.getD 1 false,l.getD 2 false,l.getD 3 false,l.getD 4 false,l.getD 5 false,l.getD 6 false,l.getD 7 false]
abbrev jI (l : List Int) : List Int:=[l.getD 0 0,l.getD 1 0,l.getD 2 0,l.getD 3 0,l.getD 4 0,l.getD 5 0,l.getD 6 0,l.getD 7 0]
abbrev eB (a b c d e f g h : Bool) (l : List Bool) (r : Prop) : Prop:=a = l.getD 0 false /\ b = l.getD 1 false /\ c = l.getD 2 false /\ d = l.getD 3 false /\ e = l.getD 4 false /\ f = l.getD 5 false /\ g = l.getD 6 false /\ h = l.getD 7 false /\ r
abbrev eI (a b c d e f g h : Int) (l : List Int) (r : Prop) : Prop:=a = l.getD 0 0 /\ b = l.getD 1 0 /\ c = l.getD 2 0 /\ d = l.getD 3 0 /\ e = l.getD 4 0 /\ f = l.getD 5 0 /\ g = l.getD 6 0 /\ h = l.getD 7 0 /\ r
abbrev uB (m l : List Bool) (r : Prop) : Prop:=eB (m.getD 0 false) (m.getD 1 false) (m.getD 2 false) (m.getD 3 false) (m.getD 4 false) (m.getD 5 false) (m.getD 6 false) (m.getD 7 false) l r
abbrev uI (m l : List Int) (r : Prop) : Prop:=eI (m.getD 0 0) (m.getD 1 0) (m.getD 2 0) (m.getD 3 0) (m.getD 4 0) (m.getD 5 0) (m.getD 6 0) (m.getD 7 0) l r
abbrev oB (a b c d e f g h : Bool) (l : List Bool) : Prop:=a = l.getD 0 false /\ b = l.getD 1 false /\ c = l.getD 2 false /\ d = l.getD 3 false /\ e = l.getD 4 false /\ f = l.getD 5 false /\ g = l.getD 6 false /\ h = l.getD 7 false
abbrev oI (a b c d e f g h : Int) (l : List Int) : Prop:=a = l.getD 0 0 /\ b = l.getD 1 0 /\ c = l.getD 2 0 /\ d = l.getD 3 0 /\ e = l.getD 4 0 /\ f = l.getD 5 0 /\ g = l.getD 6 0 /\ h = l.getD 7 0
abbrev eK (a : Int) (b : Bool) (c d e f : Int) (k : St) (r : Prop) : Prop:=a = k.1 /\ b = k.2 /\ c = k.3 /\ d = k.4 /\ e = k.5 /\ f = k.6 /\ r
end Zx.Zr
namespace Zx.Zr
open Go
def addrB (a : Int) : Bool:=decide (0 <= a) && decide (a <= 63)
def slot8 (a : Int) : Bool:=decide (0 <= a) && decide (a < 8)
def findGo : Int -> List Bool -> List Int -> Int -> Int × Bool
 | k,u :: us,a :: az,x=>if u = true /\ a = x then (k,true) else findGo (k + 1) us az x
 | _,_,_,_=>(0,false)
def goodGo (U : List Bool) (A : List Int) : Int -> List Bool -> List Int -> Bool
 | k,u :: us,a :: az=>(if u = true then decide ((findGo 0 U A a).1 = k) && addrB a else decide (a = 0)) && goodGo U A (k + 1) us az
 | _,_,_=>true
def idxGo (v : Bool) : Int -> List Bool -> Int
 | k,b :: bs=>if v = b then k else idxGo v (k + 1) bs
 | _,[]=>-1
def maskGo : Nat -> List Bool -> Int -> Int
 | k,u :: us,m=>maskGo (k + 1) us (if u = true then bits .or .i64 m (2 ^ k) else m)
 | _,[],m=>m
end Zx.Zr
namespace Zx.Zr
open Go
def gdG (U : List Bool) (A : List Int) : Bool:=goodGo U A 0 U A
def takeG (U : List Bool) (A : List Int) (a : Int) : (List Bool × List Int) × Int × Int:=
 if (goodGo U A 0 U A && addrB a) = true then
  if (findGo 0 U A a).2 = true then ((U,A),0,7)
  else if idxGo false 0 U < 0 then ((U,A),0,5)
  else ((U.set (idxGo false 0 U).toNat true,A.set (idxGo false 0 U).toNat a),idxGo false 0 U,0)
 else ((U,A),0,1)
def freeG (U : List Bool) (A : List Int) (i : Int) : (List Bool × List Int) × Int:=
 if (goodGo U A 0 U A && slot8 i) = true then
  if U.getD i.toNat false = true then ((U.set i.toNat false,A.set i.toNat 0),0) else ((U,A),6)
 else ((U,A),1)
def findG (U : List Bool) (A : List Int) (a : Int) : Int × Bool:=if goodGo U A 0 U A = true then findGo 0 U A a else (0,false)
def firstG (U : List Bool) (A : List Int) : Int × Bool:=if idxGo true 0 U < 0 \/ goodGo U A 0 U A = false then (0,false) else (idxGo true 0 U,true)
def maskG (U : List Bool) (A : List Int) : Int:=if goodGo U A 0 U A = true then maskGo 0 U 0 else 0
end Zx.Zr
namespace Zx.Zr
open Go
end Zx.Zr
namespace Zx.Zr
open Go
end Zx.Zr
namespace Zx.Zr
open Go
structure RV where
 u : List Bool
 a : List Int
 k : St
 s : List Int
 c : List Int
 o : Bool
def chkGo (ep : Int) : List Bool -> List Int -> List Int -> Bool
 | u :: us,s :: ss,c :: cs=>!(((!u) && (decide (s ≠ 0) || decide (c ≠ 0))) || decide (c < 0) || decide (ep < c)) && chkGo ep us ss cs
 | _,_,_=>true
def endRm (r : RV) : Bool:=((!r.k.op) || decide (bits .andNot .i64 r.k.nd (maskG r.u r.a) = 0)) && ((!r.o) || decide (maskG r.u r.a = 0))
def goodRm (r : RV) : Bool:=gdG r.u r.a && goodS r.k && chkGo r.k.ep r.u r.s r.c && endRm r
def f8 : List Bool:=[false,false,false,false,false,false,false,false]
def z8 : List Int:=[0,0,0,0,0,0,0,0]
def overG (ep : Int) : RV:=⟨f8,z8,⟨ep,false,0,0,0,0⟩,z8,z8,true⟩
def goneG (r : RV) (i now : Int) : RV:=
 if (raiseF r.k (maskG (freeG r.u r.a i).1.1 (freeG r.u r.a i).1.2) now).2 = 0 then
  ⟨(freeG r.u r.a i).1.1,(freeG r.u r.a i).1.2,(raiseF r.k (maskG (freeG r.u r.a i).1.1 (freeG r.u r.a i).1.2) now).1,r.s.set i.toNat 0,r.c.set i.toNat 0,r.o⟩
 else overG r.k.ep
def findRm (r : RV) (a : Int) : Int × Int:=if (!goodRm r) = true then (0,1) else if (!(findG r.u r.a a).2) = true then (0,6) else ((findG r.u r.a a).1,0)
def joinRm (r : RV) (a now : Int) : RV × Int × Int:=
 if (!goodRm r) = true then (r,0,1) else
 if r.o = true then (r,0,12) else
 if (takeG r.u r.a a).2.2 = 0 then
  if (joinF r.k (takeG r.u r.a a).2.1).2 = 0 then
   (⟨(takeG r.u r.a a).1.1,(takeG r.u r.a a).1.2,(joinF r.k (takeG r.u r.a a).2.1).1,r.s.set (takeG r.u r.a a).2.1.toNat now,r.c.set (takeG r.u r.a a).2.1.toNat (joinF r.k (takeG r.u r.a a).2.1).1.ep,r.o⟩,(takeG r.u r.a a).2.1,0)
  else (r,0,(joinF r.k (takeG r.u r.a a).2.1).2)
 else (r,0,(takeG r.u r.a a).2.2)
def leaveRm (r : RV) (a now : Int) : RV × Int:=if (findRm r a).2 = 0 then (goneG r (findRm r a).1 now,0) else (r,(findRm r a).2)
def kickRm (r : RV) (a i now : Int) : RV × Int:=
 if (findRm r a).2 = 0 then
  if (firstG r.u r.a).1 = (findRm r a).1 then
   if (freeG r.u r.a i).2 = 0 then (goneG r i now,0) else (r,(freeG r.u r.a i).2)
  else (r,13)
 else (r,(findRm r a).2)
def aliveRm (r : RV) (a now : Int) : RV × Int:=if (findRm r a).2 = 0 then (⟨r.u,r.a,r.k,r.s.set (findRm r a).1.toNat now,r.c,r.o⟩,0) else (r,(findRm r a).2)
def haveRm (r : RV) (a e : Int) : RV × Bool × Int:=
 if (findRm r a).2 = 0 then
  if (ackF r.k (findRm r a).1 e).2.2 = 0 then (⟨r.u,r.a,(ackF r.k (findRm r a).1 e).1,r.s,r.c,r.o⟩,(ackF r.k (findRm r a).1 e).2.1,0) else (r,false,(ackF r.k (findRm r a).1 e).2.2)
 else (r,false,(findRm r a).2)
def silB (s now : Int) : Bool:=decide (s <= now) && decide (500 <= IntKind.u64.wrap (IntKind.u64.wrap now - IntKind.u64.wrap s))
def tkStep (r0 : RV) (late now : Int) (n : Nat) (r : RV) : RV:=if (r0.u.getD n false && !r.o && (silB (r0.s.getD n 0) now || bitO late n)) = true then goneG r n now else r
def tkN (r0 : RV) (late now : Int) : Nat -> RV
 | 0=>r0
 | n + 1=>tkStep r0 late now n (tkN r0 late now n)
structure tkI (r0 : RV) (late now : Int) (n : Nat) (x : RV) : Prop where
 u : x.u.length = 8
 a : x.a.length = 8
 s : x.s.length = 8
 c : x.c.length = 8
 e : x = tkN r0 late now n
def goneL (u v : List Bool) : Nat -> List Int
 | 0=>[]
 | n + 1=>if (u.getD n false && !v.getD n false) = true then goneL u v n ++ [(n : Int)] else goneL u v n
def tickRm (r : RV) (now : Int) : RV × List Int:=if goodRm r = true then (tkN r (lateF r.k now) now 8,goneL r.u (tkN r (lateF r.k now) now 8).u 8) else (r,[])
theorem free_slot (u : List Bool) (a : List Int) (i : Int) (h : (freeG u a i).2 = 0) : 0 <= i /\ i < 8:=by
 unfold freeG at h
 split at h
 ·rename_i hc
  simp [slot8] at hc
  exact hc.2
 ·simp at h
theorem findGo_bd : ∀ (u : List Bool) (a : List Int) (k x : Int),(findGo k u a x).2 = true -> k <= (findGo k u a x).1 /\ (findGo k u a x).1 < k + u.length
 | [],_,_,_,h=>by simp [findGo] at h
 | _ :: _,[],_,_,h=>by simp [findGo] at h
 | u :: us,a :: az,k,x,h=>by
  unfold findGo at h ⊢
  split
  ·simp;omega
  ·rename_i hc
   rw [if_neg hc] at h
   have:=findGo_bd us az (k + 1) x h
   simp
   omega
theorem findRm_bd (r : RV) (a : Int) (h8 : r.u.length = 8) (h : (findRm r a).2 = 0) : 0 <= (findRm r a).1 /\ (findRm r a).1 < 8:=by
 unfold findRm at h ⊢
 split
 ·simp
 ·rename_i hg
  rw [if_neg hg] at h
  split
  ·simp
  ·rename_i hf0
   have hf : (findG r.u r.a a).2 = true:=by simpa using hf0
   unfold findG at hf ⊢
   split
   ·rename_i hh
    rw [if_pos hh] at hf
    have:=findGo_bd _ _ _ _ hf
    rw [h8] at this
    dsimp only
    omega
   ·simp
theorem free_len (u : List Bool) (a : List Int) (i : Int) : (freeG u a i).1.1.length = u.length /\ (freeG u a i).1.2.length = a.length:=by
 unfold freeG
 split
 ·split <;> simp
 ·simp
theorem ex8b {l : List Bool} (h : l.length = 8) : [l.getD 0 false,l.getD 1 false,l.getD 2 false,l.getD 3 false,l.getD 4 false,l.getD 5 false,l.getD 6 false,l.getD 7 false] = l:=by
 match l,h with
 | [_,_,_,_,_,_,_,_],_=>rfl
theorem ex8i {l : List Int} (h : l.length = 8) : [l.getD 0 0,l.getD 1 0,l.getD 2 0,l.getD 3 0,l.getD 4 0,l.getD 5 0,l.getD 6 0,l.getD 7 0] = l:=by
 match l,h with
 | [_,_,_,_,_,_,_,_],_=>rfl
theorem idxGo_bd (v : Bool) : ∀ (u : List Bool) (k : Int),0 <= idxGo v k u -> 0 <= k -> k <= idxGo v k u /\ idxGo v k u < k + u.length
 | [],k,h,_=>by simp [idxGo] at h
 | u :: us,k,h,h0=>by
  unfold idxGo at h ⊢
  split
  ·simp;omega
  ·rename_i hc
   rw [if_neg hc] at h
   have:=idxGo_bd v us (k + 1) h (by omega)
   simp
   omega
theorem take_slot (u : List Bool) (a : List Int) (x : Int) (h8 : u.length = 8) (h : (takeG u a x).2.2 = 0) : 0 <= (takeG u a x).2.1 /\ (takeG u a x).2.1 < 8:=by
 unfold takeG at h ⊢
 split
 ·rename_i hc
  rw [if_pos hc] at h
  split
  ·simp
  ·rename_i hf
   rw [if_neg hf] at h
   split
   ·simp
   ·rename_i hi
    have:=idxGo_bd false u 0 (by omega) (by omega)
    rw [h8] at this
    simp
    omega
 ·simp
end Zx.Zr
namespace Vx
noncomputable section
open Go Zx Zx.Zr
def valI : Value -> Int
 | .int _ n=>n
 | _=>0
def valB : Value -> Bool
 | .bool b=>b
 | _=>false
def iAt (vs : List Value) (i : Nat) : Int:=valI (vs.getD i undef)
def bAt (vs : List Value) (i : Nat) : Bool:=valB (vs.getD i undef)
def uAt (vs : List Value) (i : Nat) : List Bool:=[bAt vs i,bAt vs (i + 1),bAt vs (i + 2),bAt vs (i + 3),bAt vs (i + 4),bAt vs (i + 5),bAt vs (i + 6),bAt vs (i + 7)]
def lAt (vs : List Value) (i : Nat) : List Int:=[iAt vs i,iAt vs (i + 1),iAt vs (i + 2),iAt vs (i + 3),iAt vs (i + 4),iAt vs (i + 5),iAt vs (i + 6),iAt vs (i + 7)]
def rvAt (vs : List Value) (i : Nat) : RV:=⟨uAt vs i,lAt vs (i + 8),⟨iAt vs (i + 16),bAt vs (i + 17),iAt vs (i + 18),iAt vs (i + 19),iAt vs (i + 20),iAt vs (i + 21)⟩,lAt vs (i + 22),lAt vs (i + 30),bAt vs (i + 38)⟩
def HDo (r n : RV) : Prop:=n = r \/ ∃ a now,n = (aliveRm r a now).1
def ROne (m n : RV) : Prop:=n = m \/ (∃ a now,n = (leaveRm m a now).1) \/ (∃ a i now,n = (kickRm m a i now).1) \/ (∃ a e,n = (haveRm m a e).1) \/ (∃ a now,n = (joinRm m a now).1) \/ ∃ now,n = (tickRm m now).1
def RDo (r n : RV) : Prop:=∃ m,HDo r m /\ ROne m n
def kAt (vs : List Value) (i : Nat) : Zr.St:=⟨iAt vs i,bAt vs (i + 1),iAt vs (i + 2),iAt vs (i + 3),iAt vs (i + 4),iAt vs (i + 5)⟩
def REq (r n : RV) : Prop:=n.u = r.u /\ n.a = r.a /\ n.k = r.k /\ n.c = r.c /\ n.o = r.o
def atomV (id : Nat) (vs : List Value) : Prop:=match id with
 | 62=>rvAt vs 41 = (aliveRm (rvAt vs 0) (iAt vs 39) (iAt vs 40)).1
 | 51=>rvAt vs 40 = (tickRm (rvAt vs 0) (iAt vs 39)).1
 | 87=>rvAt vs 41 = (leaveRm (rvAt vs 0) (iAt vs 39) (iAt vs 40)).1
 | 88=>rvAt vs 42 = (kickRm (rvAt vs 0) (iAt vs 39) (iAt vs 40) (iAt vs 41)).1
 | 92=>rvAt vs 41 = (haveRm (rvAt vs 0) (iAt vs 39) (iAt vs 40)).1
 | 84=>rvAt vs 41 = (joinRm (rvAt vs 0) (iAt vs 39) (iAt vs 40)).1
 | 61=>findG (uAt vs 0) (lAt vs 8) (iAt vs 16) = (iAt vs 17,true)
 | 611=>(findG (uAt vs 0) (lAt vs 8) (iAt vs 16)).2 = true
 | 610=>(findG (uAt vs 0) (lAt vs 8) (iAt vs 16)).2 = false
 | 300=>HDo (rvAt vs 0) (rvAt vs 39)
 | 301=>RDo (rvAt vs 0) (rvAt vs 39)
 | 302=>bAt vs 39 = goodRm (rvAt vs 0)
 | 303=>goodRm (rvAt vs 0) = true /\ 0 <= (rvAt vs 0).k.hv /\ (rvAt vs 0).k.hv <= 255
 | 305=>ROne (rvAt vs 0) (rvAt vs 39)
 | 70=>iAt vs 6 = comS (kAt vs 0)
 | 76=>iAt vs 7 = iAt vs 6 + (if bAt vs 2 = true /\ bAt vs 3 = false then 1 else 0) /\ (bAt vs 2 = true -> bAt vs 3 = true -> iAt vs 5 = iAt vs 4) /\ 0 <= iAt vs 6 /\ iAt vs 6 <= 7
 | 310=>(bAt vs 78 = true -> rvAt vs 39 = rvAt vs 0) /\ (bAt vs 79 = true -> REq (rvAt vs 0) (rvAt vs 39))
 | 311=>iAt vs 0 = 0 \/ iAt vs 0 = 1 \/ iAt vs 0 = 5
 | 612=>∀ i : Nat,(i : Int) < iAt vs 17 -> ¬(bAt vs i = true /\ iAt vs (8 + i) = iAt vs 16)
 | _=>True
end
end Vx
namespace Vx
noncomputable section
open Go Zx
structure Vl where
 i : Nat -> Int
 s : Nat -> ByteArray
 a : Nat -> Int × Nat
 A : Nat -> List SC -> Prop
inductive DC where
 | num (k : IntKind) (n : Int)
 | int (k : IntKind) (e : Lin)
 | tru (b : Bool)
 | boo (p : Bool) (v : Nat)
 | str (v : Nat)
 | strL (s : ByteArray)
 | nil
 | nos
 | fn (f : FuncId)
 | zp (a : Nat) (o : Lin) (L : List CS)
 | np (a v : Nat) (o : Lin) (L : List CS)
 | zs (a : Nat) (o : Lin) (E : List CS) (n c : Lin)
 | clo (f : FuncId) (cs : List (Nat × Lin × List CS))
inductive D1 where
 | c (x : DC)
 | a (cs : List DC)
inductive DV where
 | s (x : D1)
 | t (xs : List D1)
 | u
def allReal (ρ : Vl) : List (Nat × Lin × List CS) -> Bool
 | []=>true
 | p :: ps=>decide (0 <= (ρ.a p.1).1) && allReal ρ ps
def DC.den (ρ : Vl) : DC -> SC
 | .num k n=>.num k n
 | .int k e=>.int k (e.den ρ.i)
 | .tru b=>.tru b
 | .boo p v=>.boo (p == decide (ρ.i v = 1))
 | .str v=>.str (ρ.s v)
 | .strL s=>.str s
 | .nil=>.nil
 | .nos=>.nos
 | .fn f=>.fn f
 | .zp a o L=>if 0 <= (ρ.a a).1 then .zpa (ρ.a a).1.toNat ((ρ.a a).2 + (o.den ρ.i).toNat) L else .ptr 0 0 0 0
 | .np a v o L=>if ρ.i v = 1 then (if 0 <= (ρ.a a).1 then .zpa (ρ.a a).1.toNat ((ρ.a a).2 + (o.den ρ.i).toNat) L else .ptr 0 0 0 0) else .nil
 | .zs a o E n c=>if 0 <= (ρ.a a).1 \/ c.den ρ.i <= 0 then .zsa (ρ.a a).1.toNat ((ρ.a a).2 + (o.den ρ.i).toNat) E (n.den ρ.i).toNat (c.den ρ.i).toNat else .sli 0 0 0 0 (n.den ρ.i).toNat (c.den ρ.i).toNat false
 | .clo f cs=>if allReal ρ cs then .clo f (cs.map fun p=>((ρ.a p.1).1.toNat,(ρ.a p.1).2 + (p.2.1.den ρ.i).toNat,p.2.2)) else .own 0 0 0 false
def D1.den (ρ : Vl) : D1 -> S1
 | .c x=>.c (x.den ρ)
 | .a cs=>.a (cs.map (DC.den ρ))
def DV.den (ρ : Vl) : DV -> SV
 | .s x=>.s (x.den ρ)
 | .t xs=>.t (xs.map (D1.den ρ))
 | .u=>.u
def DC.lt (n : Nat) : DC -> Prop
 | .int _ e=>e.lt n
 | .boo _ v=>v < n
 | .str v=>v < n
 | .zp a o _=>a < n /\ o.lt n
 | .np a v o _=>a < n /\ v < n /\ o.lt n
 | .zs a o _ m c=>a < n /\ o.lt n /\ m.lt n /\ c.lt n
 | .clo _ cs=>∀ p ∈ cs,p.1 < n /\ p.2.1.lt n
 | _=>True
def D1.lt (n : Nat) : D1 -> Prop
 | .c x=>x.lt n
 | .a cs=>∀ c ∈ cs,c.lt n
def DV.lt (n : Nat) : DV -> Prop
 | .s x=>x.lt n
 | .t xs=>∀ x ∈ xs,x.lt n
 | .u=>True
structure Agr (n : Nat) (ρ σ : Vl) : Prop where
 i : ∀ v,v < n -> ρ.i v = σ.i v
 s : ∀ v,v < n -> ρ.s v = σ.s v
 a : ∀ v,v < n -> ρ.a v = σ.a v
 A : ρ.A = σ.A
theorem Agr.refl (n : Nat) (ρ : Vl) : Agr n ρ ρ:=⟨fun _ _=>rfl,fun _ _=>rfl,fun _ _=>rfl,rfl⟩
theorem Agr.symm {n : Nat} {ρ σ : Vl} (h : Agr n ρ σ) : Agr n σ ρ:=⟨fun v hv=>(h.i v hv).symm,fun v hv=>(h.s v hv).symm,fun v hv=>(h.a v hv).symm,h.A.symm⟩
theorem Agr.trans {n m : Nat} {ρ σ τ : Vl} (h : Agr n ρ σ) (k : Agr m σ τ) (hm : n <= m) : Agr n ρ τ:=⟨fun v hv=>(h.i v hv).trans (k.i v (by omega)),fun v hv=>(h.s v hv).trans (k.s v (by omega)),fun v hv=>(h.a v hv).trans (k.a v (by omega)),h.A.trans k.A⟩
theorem allReal_eq {n : Nat} {ρ σ : Vl} (h : Agr n ρ σ) : ∀ {cs : List (Nat × Lin × List CS)},(∀ p ∈ cs,p.1 < n /\ p.2.1.lt n) -> allReal ρ cs = allReal σ cs
 | [],_=>rfl
 | p :: ps,hp=>by
  simp only [allReal]
  rw [h.a _ (hp p (by simp)).1,allReal_eq h fun q hq=>hp q (by simp [hq])]
theorem DC.den_eq {n : Nat} {ρ σ : Vl} (h : Agr n ρ σ) {x : DC} (hx : x.lt n) : x.den ρ = x.den σ:=by
 cases x with
 | int k e=>simp only [DC.den];rw [Lin.den_eq h.i hx]
 | boo p v=>simp only [DC.den];rw [h.i v hx]
 | str v=>simp only [DC.den];rw [h.s v hx]
 | zp a o L=>simp only [DC.den];rw [h.a a hx.1,Lin.den_eq h.i hx.2]
 | np a v o L=>simp only [DC.den];rw [h.a a hx.1,h.i v hx.2.1,Lin.den_eq h.i hx.2.2]
 | zs a o E m c=>simp only [DC.den];rw [h.a a hx.1,Lin.den_eq h.i hx.2.1,Lin.den_eq h.i hx.2.2.1,Lin.den_eq h.i hx.2.2.2]
 | clo f cs=>
  simp only [DC.den]
  rw [allReal_eq h hx,List.map_congr_left fun p hp=>by rw [h.a _ (hx p hp).1,Lin.den_eq h.i (hx p hp).2]]
 | _=>rfl
theorem D1.den_eq {n : Nat} {ρ σ : Vl} (h : Agr n ρ σ) {x : D1} (hx : x.lt n) : x.den ρ = x.den σ:=by
 cases x with
 | c x=>simp only [D1.den];rw [DC.den_eq h hx]
 | a cs=>simp only [D1.den];congr 1;exact List.map_congr_left fun c hc=>DC.den_eq h (hx c hc)
theorem DV.den_eq {n : Nat} {ρ σ : Vl} (h : Agr n ρ σ) {x : DV} (hx : x.lt n) : x.den ρ = x.den σ:=by
 cases x with
 | s x=>simp only [DV.den];rw [D1.den_eq h hx]
 | t xs=>simp only [DV.den];congr 1;exact List.map_congr_left fun c hc=>D1.den_eq h (hx c hc)
 | u=>rfl
theorem DC.lt_mono {n m : Nat} (h : n <= m) {x : DC} (hx : x.lt n) : x.lt m:=by
 cases x with
 | int k e=>exact Tm.lt_mono h hx
 | boo p v=>exact Nat.lt_of_lt_of_le hx h
 | str v=>exact Nat.lt_of_lt_of_le hx h
 | zp a o L=>exact ⟨Nat.lt_of_lt_of_le hx.1 h,Tm.lt_mono h hx.2⟩
 | np a v o L=>exact ⟨Nat.lt_of_lt_of_le hx.1 h,Nat.lt_of_lt_of_le hx.2.1 h,Tm.lt_mono h hx.2.2⟩
 | zs a o E m c=>exact ⟨Nat.lt_of_lt_of_le hx.1 h,Tm.lt_mono h hx.2.1,Tm.lt_mono h hx.2.2.1,Tm.lt_mono h hx.2.2.2⟩
 | clo f cs=>exact fun p hp=>⟨Nat.lt_of_lt_of_le (hx p hp).1 h,Tm.lt_mono h (hx p hp).2⟩
 | _=>trivial
theorem D1.lt_mono {n m : Nat} (h : n <= m) {x : D1} (hx : x.lt n) : x.lt m:=by
 cases x with
 | c x=>exact DC.lt_mono h hx
 | a cs=>exact fun c hc=>DC.lt_mono h (hx c hc)
theorem DV.lt_mono {n m : Nat} (h : n <= m) {x : DV} (hx : x.lt n) : x.lt m:=by
 cases x with
 | s x=>exact D1.lt_mono h hx
 | t xs=>exact fun c hc=>D1.lt_mono h (hx c hc)
 | u=>trivial
structure Atom where
 id : Nat
 xs : List DC
def Atom.den (ρ : Vl) (f : Atom) : Prop:=∃ vs : List Value,(∀ sg : Nat -> Nat -> Option CS,All2 (SC.ok (⟨fun _=>none,sg⟩ : Mu)) (f.xs.map (DC.den ρ)) vs) /\ atomV f.id vs
def Atom.lt (n : Nat) (f : Atom) : Prop:=∀ x ∈ f.xs,x.lt n
theorem Atom.den_eq {n : Nat} {ρ σ : Vl} (h : Agr n ρ σ) {f : Atom} (hf : f.lt n) : f.den ρ = f.den σ:=by
 unfold Atom.den
 rw [List.map_congr_left fun x hx=>DC.den_eq h (hf x hx)]
theorem Atom.lt_mono {n m : Nat} (h : n <= m) {f : Atom} (hf : f.lt n) : f.lt m:=fun x hx=>DC.lt_mono h (hf x hx)
structure Kn where
 n : Nat
 C : List Lin
 F : List Atom:=[]
structure Kn.Ok (κ : Kn) (ρ : Vl) : Prop where
 lt : ∀ l ∈ κ.C,l.lt κ.n
 sat : Sat ρ.i κ.C
 flt : ∀ f ∈ κ.F,f.lt κ.n
 fact : ∀ f ∈ κ.F,f.den ρ
structure Gr (κ κ' : Kn) (ρ ρ' : Vl) : Prop where
 le : κ.n <= κ'.n
 agr : Agr κ.n ρ ρ'
 ok : κ'.Ok ρ'
theorem Gr.refl {κ : Kn} {ρ : Vl} (h : κ.Ok ρ) : Gr κ κ ρ ρ:=⟨Nat.le_refl _,Agr.refl _ _,h⟩
theorem Gr.trans {a b c : Kn} {ρ σ τ : Vl} (h : Gr a b ρ σ) (k : Gr b c σ τ) : Gr a c ρ τ:=⟨Nat.le_trans h.le k.le,h.agr.trans k.agr h.le,k.ok⟩
def Kn.fuel : Nat:=7
def Kn.has (κ : Kn) (g : Lin) : Bool:=ent Kn.fuel κ.C g
theorem Kn.has_ok {κ : Kn} {ρ : Vl} (h : κ.Ok ρ) {g : Lin} (hg : κ.has g = true) : 0 <= g.den ρ.i:=ent_ok h.sat hg
def Kn.hasB (κ : Kn) (g : Lin) : Bool:=entM 4 0 κ.C g.normL 1
theorem Kn.hasB_ok {κ : Kn} {ρ : Vl} (h : κ.Ok ρ) {g : Lin} (hg : κ.hasB g = true) : 0 <= g.den ρ.i:=Lin.normL_ok (by
 have:=entM_ok h.sat hg
 omega)
def Kn.hasE (κ : Kn) (g : Lin) : Bool:=κ.hasB g || (match g.t with
 | [_]=>κ.has g
 | _=>false)
theorem Kn.hasE_ok {κ : Kn} {ρ : Vl} (h : κ.Ok ρ) {g : Lin} (hg : κ.hasE g = true) : 0 <= g.den ρ.i:=by
 unfold Kn.hasE at hg
 rw [Bool.or_eq_true] at hg
 rcases hg with hg | hg
 ·exact Kn.hasB_ok h hg
 ·split at hg
  ·exact Kn.has_ok h hg
  ·cases hg
def Kn.add (κ : Kn) (l : Lin) : Kn:=⟨κ.n,l.normL :: κ.C,κ.F⟩
theorem Kn.add_ok {κ : Kn} {ρ : Vl} (h : κ.Ok ρ) {l : Lin} (hl : l.lt κ.n) (hs : 0 <= l.den ρ.i) : (κ.add l).Ok ρ:=
 ⟨fun x hx=>by
  rcases List.mem_cons.1 hx with rfl | hx
  ·exact Lin.normL_lt hl
  ·exact h.lt x hx,h.sat.cons (Lin.normL_nn hs),h.flt,h.fact⟩
theorem Kn.add_gr {κ : Kn} {ρ : Vl} (h : κ.Ok ρ) {l : Lin} (hl : l.lt κ.n) (hs : 0 <= l.den ρ.i) : Gr κ (κ.add l) ρ ρ:=⟨Nat.le_refl _,Agr.refl _ _,Kn.add_ok h hl hs⟩
def Vl.seti (ρ : Vl) (n : Nat) (x : Int) : Vl:={ ρ with i:=fun v=>if v = n then x else ρ.i v }
def Vl.sets (ρ : Vl) (n : Nat) (x : ByteArray) : Vl:={ ρ with s:=fun v=>if v = n then x else ρ.s v }
def Vl.seta (ρ : Vl) (n : Nat) (x : Int × Nat) : Vl:={ ρ with a:=fun v=>if v = n then x else ρ.a v }
theorem Vl.seti_agr (ρ : Vl) (n : Nat) (x : Int) : Agr n ρ (ρ.seti n x):=⟨fun v hv=>by simp [Vl.seti,Nat.ne_of_lt hv],fun _ _=>rfl,fun _ _=>rfl,rfl⟩
theorem Vl.sets_agr (ρ : Vl) (n : Nat) (x : ByteArray) : Agr n ρ (ρ.sets n x):=⟨fun _ _=>rfl,fun v hv=>by simp [Vl.sets,Nat.ne_of_lt hv],fun _ _=>rfl,rfl⟩
theorem Vl.seta_agr (ρ : Vl) (n : Nat) (x : Int × Nat) : Agr n ρ (ρ.seta n x):=⟨fun _ _=>rfl,fun _ _=>rfl,fun v hv=>by simp [Vl.seta,Nat.ne_of_lt hv],rfl⟩
def Kn.new (κ : Kn) : Kn:=⟨κ.n + 1,κ.C,κ.F⟩
theorem Kn.new_gr {κ : Kn} {ρ : Vl} (h : κ.Ok ρ) {σ : Vl} (ha : Agr κ.n ρ σ) : Gr κ κ.new ρ σ:=
 ⟨Nat.le_succ _,ha,fun l hl=>Tm.lt_mono (Nat.le_succ _) (h.lt l hl),Sat.eq ha.i h.lt h.sat,fun f hf=>Atom.lt_mono (Nat.le_succ _) (h.flt f hf),fun f hf=>by rw [← Atom.den_eq ha (h.flt f hf)];exact h.fact f hf⟩
def Got (κ : Kn) (ρ : Vl) (kk : Kn -> DV -> Bool) (o : Out SV) : Prop:=o.wp fun sv=>∃ κ' x ρ',kk κ' x = true /\ Gr κ κ' ρ ρ' /\ x.lt κ'.n /\ sv = x.den ρ'
theorem Got.ret {κ : Kn} {ρ : Vl} {kk : Kn -> DV -> Bool} {x : DV} (h : kk κ x = true) (hk : κ.Ok ρ) (hx : x.lt κ.n) : Got κ ρ kk (.ret (x.den ρ)):=⟨κ,x,ρ,h,Gr.refl hk,hx,rfl⟩
theorem Got.more {κ κ' : Kn} {ρ ρ' : Vl} {kk : Kn -> DV -> Bool} {o : Out SV} (g : Gr κ κ' ρ ρ') (h : Got κ' ρ' kk o) : Got κ ρ kk o:=Out.wp_mono (fun sv ⟨κ2,x,ρ2,h1,h2,h3,h4⟩=>⟨κ2,x,ρ2,h1,g.trans h2,h3,h4⟩) h
def d1 (x : DC) : DV:=.s (.c x)
def wrapD (k : IntKind) (e : Lin) (κ : Kn) (kk : Kn -> DV -> Bool) : Bool:=
 if κ.has (e.addc (-k.min)) && κ.has ((Lin.num k.max).sub e) then kk κ (d1 (.int k e))
 else kk ((κ.new.add ((Lin.var κ.n).addc (-k.min))).add ((Lin.num k.max).sub (Lin.var κ.n))) (d1 (.int k (.var κ.n)))
theorem wrap_in (k : IntKind) (n : Int) : k.min <= k.wrap n /\ k.wrap n <= k.max:=by
 cases k <;> simp [IntKind.wrap,IntKind.min,IntKind.max,IntKind.bits,IntKind.signed] <;> (try split) <;> omega
theorem wrap_fit {k : IntKind} {n : Int} (h1 : k.min <= n) (h2 : n <= k.max) : k.wrap n = n:=by
 cases k <;> simp [IntKind.wrap,IntKind.min,IntKind.max,IntKind.bits,IntKind.signed] at h1 h2 ⊢ <;> (try split) <;> omega
theorem mkI_any {κ : Kn} {ρ : Vl} {kk : Kn -> DV -> Bool} {k : IntKind} {n : Int} {x : DV} {κ' : Kn} {ρ' : Vl} (g : Gr κ κ' ρ ρ') (hx : x.lt κ'.n) (hd : x.den ρ' = one (.int k n)) (h : kk κ' x = true) : Got κ ρ kk (mkI k false n):=fun y hy=>by
 subst hy
 exact ⟨κ',x,ρ',h,g,hx,hd.symm⟩
theorem new_range {κ : Kn} {ρ : Vl} (hκ : κ.Ok ρ) {lo hi x : Int} (h1 : lo <= x) (h2 : x <= hi) : Gr κ ((κ.new.add ((Lin.var κ.n).addc (-lo))).add ((Lin.num hi).sub (Lin.var κ.n))) ρ (ρ.seti κ.n x):=by
 have g0:=Kn.new_gr hκ (Vl.seti_agr ρ κ.n x)
 have hv : (ρ.seti κ.n x).i κ.n = x:=by simp [Vl.seti]
 have lv : (Lin.var κ.n).lt κ.new.n:=Lin.var_lt (Nat.lt_succ_self _)
 have g1:=g0.trans (Kn.add_gr g0.ok (l:=(Lin.var κ.n).addc (-lo)) (Lin.addc_lt lv) (by rw [Lin.addc_den,Lin.var_den,hv];omega))
 exact g1.trans (Kn.add_gr g1.ok (Lin.sub_lt (Lin.num_lt _ _) lv) (by rw [Lin.sub_den,Lin.num_den,Lin.var_den,hv];omega))
theorem wrapD_got {κ : Kn} {ρ : Vl} {kk : Kn -> DV -> Bool} {k : IntKind} {e : Lin} (hκ : κ.Ok ρ) (he : e.lt κ.n) (h : wrapD k e κ kk = true) : Got κ ρ kk (mkI k false (k.wrap (e.den ρ.i))):=by
 unfold wrapD at h
 split at h
 ·rename_i hc
  rw [Bool.and_eq_true] at hc
  have h1:=Kn.has_ok hκ hc.1
  have h2:=Kn.has_ok hκ hc.2
  simp only [Lin.addc_den,Lin.sub_den,Lin.num_den] at h1 h2
  refine mkI_any (Gr.refl hκ) (x:=d1 (.int k e)) he ?_ h
  rw [wrap_fit (by omega) (by omega)]
  rfl
 ·obtain ⟨h1,h2⟩:=wrap_in k (e.den ρ.i)
  refine mkI_any (new_range hκ h1 h2) (x:=d1 (.int k (.var κ.n))) (Lin.var_lt (Nat.lt_succ_self _)) ?_ h
  simp [d1,DV.den,D1.den,DC.den,one,Vl.seti]
def anyD (k : IntKind) (lo hi : Int) (κ : Kn) (kk : Kn -> DV -> Bool) : Bool:=
 kk ((κ.new.add ((Lin.var κ.n).addc (-lo))).add ((Lin.num hi).sub (Lin.var κ.n))) (d1 (.int k (.var κ.n)))
theorem anyD_got {κ : Kn} {ρ : Vl} {kk : Kn -> DV -> Bool} {k : IntKind} {lo hi n : Int} (hκ : κ.Ok ρ) (h1 : lo <= n) (h2 : n <= hi) (h : anyD k lo hi κ kk = true) : Got κ ρ kk (mkI k false n):=
 mkI_any (new_range hκ h1 h2) (x:=d1 (.int k (.var κ.n))) (Lin.var_lt (Nat.lt_succ_self _)) (by simp [d1,DV.den,D1.den,DC.den,one,Vl.seti]) h
end
end Vx
namespace Vx
noncomputable section
open Go Zx
theorem ofInt_nat (n : Nat) {a : Int} (h0 : 0 <= a) (h1 : a < 2 ^ n) : (BitVec.ofInt n a).toNat = a.toNat:=by
 obtain ⟨m,rfl⟩:=Int.eq_ofNat_of_zero_le h0
 rw [BitVec.ofInt_natCast,BitVec.toNat_ofNat]
 refine Nat.mod_eq_of_lt ?_
 exact_mod_cast h1
theorem bits_in (op : BinOp) (h : op = .and \/ op = .or \/ op = .xor \/ op = .andNot) (k : IntKind) (a b : Int) : k.min <= bits op k a b /\ bits op k a b <= k.max:=by
 rcases h with rfl | rfl | rfl | rfl
 ·exact wrap_in k (((BitVec.ofInt k.bits a &&& BitVec.ofInt k.bits b).toNat : Nat) : Int)
 ·exact wrap_in k (((BitVec.ofInt k.bits a ||| BitVec.ofInt k.bits b).toNat : Nat) : Int)
 ·exact wrap_in k (((BitVec.ofInt k.bits a ^^^ BitVec.ofInt k.bits b).toNat : Nat) : Int)
 ·exact wrap_in k (((BitVec.ofInt k.bits a &&& ~~~(BitVec.ofInt k.bits b)).toNat : Nat) : Int)
theorem max_lt (k : IntKind) : k.max < 2 ^ k.bits:=by cases k <;> simp [IntKind.max,IntKind.bits,IntKind.signed]
theorem min_neg (k : IntKind) : k.min <= 0:=by cases k <;> simp [IntKind.min,IntKind.bits,IntKind.signed]
theorem bits_and {k : IntKind} {a b : Int} (a0 : 0 <= a) (a1 : a <= k.max) (b0 : 0 <= b) (b1 : b <= k.max) : 0 <= bits .and k a b /\ bits .and k a b <= a /\ bits .and k a b <= b:=by
 have e : bits .and k a b = k.wrap (((BitVec.ofInt k.bits a &&& BitVec.ofInt k.bits b).toNat : Nat) : Int):=rfl
 have hm:=max_lt k
 rw [e,BitVec.toNat_and,ofInt_nat _ a0 (by omega),ofInt_nat _ b0 (by omega)]
 have h1 : a.toNat &&& b.toNat <= a.toNat:=Nat.and_le_left
 have h2 : a.toNat &&& b.toNat <= b.toNat:=Nat.and_le_right
 have hn:=min_neg k
 rw [wrap_fit (by omega) (by omega)]
 omega
theorem nat_or_le : ∀ (n a b : Nat),a <= n -> a ||| b <= a + b
 | 0,a,b,h=>by
  have : a = 0:=by omega
  subst this
  simp
 | n + 1,a,b,h=>by
  rcases Nat.eq_zero_or_pos a with h0 | h0
  ·subst h0;simp
  have ih:=nat_or_le n (a / 2) (b / 2) (by omega)
  have h1 : (a ||| b) / 2 = a / 2 ||| b / 2:=Nat.or_div_two
  have h2 : (a ||| b) % 2 = 1 ↔ a % 2 = 1 \/ b % 2 = 1:=Nat.or_mod_two_eq_one
  have h3 : (a ||| b) % 2 <= a % 2 + b % 2:=by
   rcases Nat.mod_two_eq_zero_or_one (a ||| b) with h | h
   ·omega
   ·have:=h2.1 h
    omega
  omega
theorem bits_or {k : IntKind} {a b : Int} (a0 : 0 <= a) (a1 : a <= k.max) (b0 : 0 <= b) (b1 : b <= k.max) : a <= bits .or k a b /\ b <= bits .or k a b /\ bits .or k a b <= a + b:=by
 have e : bits .or k a b = k.wrap (((BitVec.ofInt k.bits a ||| BitVec.ofInt k.bits b).toNat : Nat) : Int):=rfl
 have hm:=max_lt k
 rw [e,BitVec.toNat_or,ofInt_nat _ a0 (by omega),ofInt_nat _ b0 (by omega)]
 have h1 : a.toNat <= a.toNat ||| b.toNat:=Nat.left_le_or
 have h2 : b.toNat <= a.toNat ||| b.toNat:=Nat.right_le_or
 have h3:=nat_or_le a.toNat a.toNat b.toNat (Nat.le_refl _)
 have hn:=min_neg k
 have h4 : ((a.toNat ||| b.toNat : Nat) : Int) <= k.max:=by
  have hp : ∃ j : Nat,k.max = 2 ^ j - 1:=by
   cases k
   ·exact ⟨7,by decide⟩
   ·exact ⟨15,by decide⟩
   ·exact ⟨31,by decide⟩
   ·exact ⟨63,by decide⟩
   ·exact ⟨8,by decide⟩
   ·exact ⟨16,by decide⟩
   ·exact ⟨32,by decide⟩
   ·exact ⟨64,by decide⟩
  obtain ⟨j,hj⟩:=hp
  have hpow : ((2 ^ j : Nat) : Int) = 2 ^ j:=by push_cast;rfl
  have : a.toNat ||| b.toNat < 2 ^ j:=Nat.or_lt_two_pow (by omega) (by omega)
  omega
 rw [wrap_fit (by omega) (by omega)]
 omega
def brD (g g' : Lin) (x y : DV) (κ : Kn) (kk : Kn -> DV -> Bool) : Bool:=(κ.hasB g' || kk (κ.add g) x) && (κ.hasB g || kk (κ.add g') y)
theorem brD_got {κ : Kn} {ρ : Vl} {kk : Kn -> DV -> Bool} {g g' : Lin} {x y : DV} {p : Prop} (hκ : κ.Ok ρ) (hg : g.lt κ.n) (hg' : g'.lt κ.n) (hx : x.lt κ.n) (hy : y.lt κ.n) (hp : p ↔ 0 <= g.den ρ.i) (hn : ¬p ↔ 0 <= g'.den ρ.i) (h : brD g g' x y κ kk = true) :
  Got κ ρ kk (.br p (.ret (x.den ρ)) (.ret (y.den ρ))):=by
 unfold brD at h
 rw [Bool.and_eq_true,Bool.or_eq_true,Bool.or_eq_true] at h
 refine ⟨fun c=>?_,fun c=>?_⟩
 ·rcases h.1 with h1 | h1
  ·exact absurd c (hn.2 (Kn.hasB_ok hκ h1))
  ·exact Got.more (Kn.add_gr hκ hg (hp.1 c)) (Got.ret h1 (Kn.add_ok hκ hg (hp.1 c)) hx)
 ·rcases h.2 with h1 | h1
  ·exact absurd (hp.2 (Kn.hasB_ok hκ h1)) c
  ·exact Got.more (Kn.add_gr hκ hg' (hn.1 c)) (Got.ret h1 (Kn.add_ok hκ hg' (hn.1 c)) hy)
def eqD (a b : Lin) (x y : DV) (κ : Kn) (kk : Kn -> DV -> Bool) : Bool:=
 match a.sub b,b.sub a with
 | d,e=>(κ.hasB (d.addc (-1)) || (κ.hasB (e.addc (-1)) || kk ((κ.add d).add e) x)) &&
  (match κ.hasE d,κ.hasE e with
   | true,true=>true
   | true,false=>kk (κ.add (d.addc (-1))) y
   | false,true=>kk (κ.add (e.addc (-1))) y
   | false,false=>kk κ y)
theorem eqD_got {κ : Kn} {ρ : Vl} {kk : Kn -> DV -> Bool} {a b : Lin} {x y : DV} (hκ : κ.Ok ρ) (ha : a.lt κ.n) (hb : b.lt κ.n) (hx : x.lt κ.n) (hy : y.lt κ.n) (h : eqD a b x y κ kk = true) :
  Got κ ρ kk (.br (a.den ρ.i = b.den ρ.i) (.ret (x.den ρ)) (.ret (y.den ρ))):=by
 unfold eqD at h
 simp only [] at h
 rw [Bool.and_eq_true,Bool.or_eq_true,Bool.or_eq_true] at h
 have ld : (a.sub b).lt κ.n:=Lin.sub_lt ha hb
 have le : (b.sub a).lt κ.n:=Lin.sub_lt hb ha
 refine ⟨fun c=>?_,fun c=>?_⟩
 ·rcases h.1 with h1 | h1 | h1
  ·have:=Kn.hasB_ok hκ h1
   simp only [Lin.addc_den,Lin.sub_den] at this
   omega
  ·have:=Kn.hasB_ok hκ h1
   simp only [Lin.addc_den,Lin.sub_den] at this
   omega
  ·have g1:=Kn.add_gr hκ ld (by rw [Lin.sub_den];omega)
   have g2:=g1.trans (Kn.add_gr g1.ok le (by rw [Lin.sub_den];omega))
   exact Got.more g2 (Got.ret h1 g2.ok hx)
 ·have h2:=h.2
  split at h2
  ·rename_i e1 e2
   have h3:=Kn.hasE_ok hκ e1
   have h4:=Kn.hasE_ok hκ e2
   rw [Lin.sub_den] at h3 h4
   omega
  ·rename_i e1 e2
   have h3:=Kn.hasE_ok hκ e1
   rw [Lin.sub_den] at h3
   have g1:=Kn.add_gr hκ (l:=(a.sub b).addc (-1)) ld (by rw [Lin.addc_den,Lin.sub_den];omega)
   exact Got.more g1 (Got.ret h2 g1.ok hy)
  ·rename_i e1 e2
   have h3:=Kn.hasE_ok hκ e2
   rw [Lin.sub_den] at h3
   have g1:=Kn.add_gr hκ (l:=(b.sub a).addc (-1)) le (by rw [Lin.addc_den,Lin.sub_den];omega)
   exact Got.more g1 (Got.ret h2 g1.ok hy)
  ·exact Got.ret h2 hκ hy
end
end Vx
