/- A part of the proof: lemmas. No condition of its own. -/
import Derived.ChangeKeysEq
import Derived.Test.YtglcgbhhkjebbaaGreatK02
set_option linter.unusedVariables false
set_option linter.unusedSimpArgs false
namespace Zx
noncomputable section
open Go
def fieldOut (P : Program) (s : TypeId) (x : SV) (f : Nat) : Out SV:=
 match x,P.underlying s with
 | .s (.c (.ptr b i e j)),some (.struct fs)=>match fs[f]? with
  | some fd=>match P.info? fd.type with
   | some inf=>if inf.size = 0 then .fail else .ret (one (.ptr b i e (j + fd.offset)))
   | none=>.fail
  | none=>.fail
 | _,_=>.fail
theorem field_ok {μ : Mu} {P : Program} {w : World} {K : SV -> Prop} {s : TypeId} {x : SV} {u : Value} {f : Nat} (hx : x.ok μ u) (h : (fieldOut P s x f).wp K) :
  ∃ z sv,(Instr.fieldAt s u f).run P w = .ok z w /\ K sv /\ sv.ok μ z:=by
 unfold fieldOut at h
 split at h
 ·rename_i b i e j fs hu
  obtain ⟨l,hl,rfl⟩:=hx
  split at h
  ·rename_i fd hf
   split at h
   ·rename_i inf hi
    split at h
    ·exact h.elim
    ·rename_i hz
     refine ⟨_,_, ?_,h,⟨l,hl,rfl⟩⟩
     simp [Instr.fieldAt,run_underlying hu,hf,Instr.sureAddr,fieldPlace,run_sizeOf' hi,hz,Addr.add_lit',Nat.add_assoc]
   ·exact h.elim
  ·exact h.elim
 ·exact h.elim
def splitN (n : Int) (f : Nat -> Out SV) : Nat -> Nat -> Out SV
 | m,0=>.fail
 | m,1=>f m
 | m,k + 2=>.br (n = (m : Int)) (f m) (splitN n f (m + 1) (k + 1))
theorem splitN_ok {n : Int} {f : Nat -> Out SV} {K : SV -> Prop} : ∀ {k m : Nat},(m : Int) <= n -> n < (m : Int) + k -> (splitN n f m k).wp K -> ∃ x : Nat,n = (x : Int) /\ (f x).wp K
 | 0,m,_,_,h=>h.elim
 | 1,m,h1,h2,h=>⟨m,by omega,h⟩
 | k + 2,m,h1,h2,h=>by
  by_cases hm : n = (m : Int)
  ·exact ⟨m,hm,h.1 hm⟩
  ·exact splitN_ok (by omega) (by omega) (h.2 hm)
def indexOut (P : Program) (t : TypeId) (x ix : SV) : Out SV:=
 match P.underlying t,x,ix.int? with
 | some (.array len el),.s (.c (.ptr b i e j)),some (_,n,c)=>match P.info? el with
  | some inf=>need c (0 <= n /\ n < len) (if c then .ret (one (.ptr b i e (j + n.toNat * inf.size))) else splitN n (fun m=>.ret (one (.ptr b i e (j + m * inf.size)))) 0 len)
  | none=>.fail
 | some (.slice el),.s (.c (.sli b i e j len cap q)),some (_,n,c)=>match P.info? el with
  | some inf=>if e = 0 then
    (need (c && q) (0 <= n /\ n < len) (if c then .ret (one (.ptr b i 0 (j + n.toNat * inf.size))) else if q then splitN n (fun m=>.ret (one (.ptr b i 0 (j + m * inf.size)))) 0 len else .fail))
   else if e = inf.size then need (c && q) (0 <= n /\ n < len) (.ret (one (.ptr b (i + n.toNat) e j))) else .fail
  | none=>.fail
 | some (.slice el),.s (.c (.own b len cap q)),some (_,n,c)=>match P.info? el with
  | some inf=>need (c && q) (0 <= n /\ n < len) (.ret (one (.ptr b n.toNat inf.size 0)))
  | none=>.fail
 | _,_,_=>.fail
theorem index_ok {μ : Mu} {P : Program} {w : World} {K : SV -> Prop} {t : TypeId} {x ix : SV} {u v : Value} (hx : x.ok μ u) (hi : ix.ok μ v) (h : (indexOut P t x ix).wp K) :
  ∃ z sv,(Instr.indexAt t u v).run P w = .ok z w /\ K sv /\ sv.ok μ z:=by
 unfold indexOut at h
 split at h
 ·rename_i len el b i e j k n c hu hn
  obtain ⟨l,hl,rfl⟩:=hx
  have:=SV.int_ok hn hi
  subst this
  split at h
  ·rename_i inf hif
   obtain ⟨⟨h0,h1⟩,h⟩:=need_ok h
   have hrun : (Instr.indexAt t (.pointer (some ⟨l.b,l.off + (i * e + j),none⟩)) (.int k n)).run P w = .ok (.pointer (some ⟨l.b,l.off + (i * e + (j + n.toNat * inf.size)),none⟩)) w:=by
    simp [Instr.indexAt,asIntOf,run_underlying hu,Instr.sureAddr,h0,h1,run_sizeOf' hif,Addr.add_lit',Nat.add_assoc]
   split at h
   ·exact ⟨_,_,hrun,h,⟨l,hl,rfl⟩⟩
   ·obtain ⟨m,rfl,hm⟩:=splitN_ok (by omega) (by omega) h
    exact ⟨_,_,hrun,hm,⟨l,hl,by simp⟩⟩
  ·exact h.elim
 ·rename_i el b i e j len cap q k n c hu hn
  obtain ⟨l,a,hl,rfl,ha,hlc,hcm⟩:=hx
  have:=SV.int_ok hn hi
  subst this
  split at h
  ·rename_i inf hif
   have gen : (0 <= n /\ n < len) -> (Instr.indexAt t (.slice a len cap) (.int k n)).run P w = .ok (.pointer (some ⟨l.b,l.off + (i * e + j) + n.toNat * inf.size,none⟩)) w:=by
    rintro ⟨h0,h1⟩
    rw [ha (by omega)]
    simp [Instr.indexAt,asIntOf,run_underlying hu,h0,h1,run_sizeOf' hif,Addr.add_lit']
   split at h
   ·rename_i he
    subst he
    obtain ⟨hb,h⟩:=need_ok h
    have hrun:=gen hb
    split at h
    ·exact ⟨_,_,hrun,h,⟨l,hl,by simp [Nat.add_assoc]⟩⟩
    ·split at h
     ·obtain ⟨m,rfl,hm⟩:=splitN_ok (by omega) (by omega) h
      exact ⟨_,_,hrun,hm,⟨l,hl,by simp [Nat.add_assoc]⟩⟩
     ·exact h.elim
   ·split at h
    ·rename_i he
     obtain ⟨hb,h⟩:=need_ok h
     refine ⟨_,_,gen hb,h,⟨l,hl, ?_⟩⟩
     rw [← he,Nat.add_mul]
     congr 3
     omega
    ·exact h.elim
  ·exact h.elim
 ·rename_i el b len cap q k n c hu hn
  obtain ⟨l,a,hl,rfl,hd,ha,hlc,hcm⟩:=hx
  have:=SV.int_ok hn hi
  subst this
  split at h
  ·rename_i inf hif
   obtain ⟨⟨h0,h1⟩,h⟩:=need_ok h
   refine ⟨.pointer (some ⟨l.b,l.off + n.toNat * inf.size,none⟩),_, ?_,h,⟨l,hl,by simp⟩⟩
   rw [hd,ha (by omega)]
   simp [Instr.indexAt,asIntOf,run_underlying hu,h0,h1,run_sizeOf' hif,Addr.add_lit']
  ·exact h.elim
 ·exact h.elim
def bndO (x : Option SV) (d : Nat) (dq : Bool) (y : Nat) (yq : Bool) (k : Nat -> Bool -> Out SV) : Out SV:=
 match x with
 | none=>k d dq
 | some v=>match v.int? with
  | some (_,n,c)=>need (c && yq) (0 <= n /\ n <= (y : Int)) (k n.toNat c)
  | none=>.fail
def optOk (μ : Mu) : Option SV -> Option Value -> Prop
 | none,none=>True
 | some x,some v=>x.ok μ v
 | _,_=>False
theorem bnd_ok {μ : Mu} {P : Program} {w : World} {K : SV -> Prop} {x : Option SV} {v : Option Value} {d y : Nat} {dq yq : Bool} {k : Nat -> Bool -> Out SV} (hx : optOk μ x v) (hd : d <= y) (h : (bndO x d dq y yq k).wp K) :
  ∃ n q,n <= y /\ (k n q).wp K /\ ∀ code,(match v with | some v=>Instr.sliceBound v y code | none=>pure d : Sem Nat).run P w = .ok n w:=by
 cases x with
 | none=>
  cases v with
  | none=>exact ⟨d,dq,hd,h,fun _=>rfl⟩
  | some v=>exact hx.elim
 | some x=>
  cases v with
  | none=>exact hx.elim
  | some v=>
   simp only [bndO] at h
   split at h
   ·rename_i k' n c hn
    have:=SV.int_ok hn hx
    subst this
    obtain ⟨⟨h0,h1⟩,h⟩:=need_ok h
    exact ⟨n.toNat,c,by omega,h,fun code=>by simp [Instr.sliceBound,asIntOf,h0,h1]⟩
   ·exact h.elim
def zeroS (x : Option SV) : Bool:=
 match x with
 | some v=>match v.int? with
  | some (_,n,c)=>c && n == 0
  | none=>false
 | none=>false
def lowS (x : Option SV) : Bool:=
 match x with
 | none=>true
 | some v=>zeroS (some v)
def rowS (x : SV) : Bool:=
 match x with
 | .s (.c (.sli _ _ _ _ _ _ _))=>true
 | .s (.c (.own _ _ _ _))=>true
 | .s (.c .nos)=>true
 | _=>false
theorem zeroS_ok {μ : Mu} {P : Program} {w : World} {x : Option SV} {v : Option Value} (h : zeroS x = true) (hx : optOk μ x v) : ∃ k,v = some (.int k 0):=by
 unfold zeroS at h
 split at h
 ·rename_i y
  split at h
  ·rename_i k n c hn
   simp at h
   obtain ⟨_,rfl⟩:=h
   cases v with
   | none=>exact hx.elim
   | some v=>exact ⟨k,by rw [SV.int_ok hn hx]⟩
  ·cases h
 ·cases h
theorem rowS_ok {μ : Mu} {x : SV} {u : Value} (h : rowS x = true) (hx : x.ok μ u) : ∃ a n c,u = .slice a n c:=by
 unfold rowS at h
 split at h
 ·obtain ⟨l,a,_,rfl,_⟩:=hx;exact ⟨_,_,_,rfl⟩
 ·obtain ⟨l,a,_,rfl,he,_⟩:=hx;exact ⟨_,_,_,he⟩
 ·obtain ⟨a,rfl⟩:=hx;exact ⟨_,_,_,rfl⟩
 ·cases h
def sliceOut (P : Program) (t : TypeId) (x : SV) (lo hi mx : Option SV) : Out SV:=
 match mx with
 | some m=>match P.underlying t with
  | some (.slice el)=>match P.info? el with
   | some inf=>if zeroS (some m) && (zeroS hi && (lowS lo && rowS x)) then .ret (one .nos) else .fail
   | none=>.fail
  | _=>.fail
 | none=>
  match P.underlying t,x with
  | some (.array n el),.s (.c (.ptr b i e j))=>match P.info? el with
   | some inf=>if n <= maxLen then (bndO hi n true n true fun h hq=>bndO lo 0 true h hq fun l lq=>if lq then .ret (one (.sli b i e (j + l * inf.size) (h - l) (n - l) hq)) else .fail) else .fail
   | none=>.fail
  | some (.slice el),.s (.c (.sli b i e j len cap q))=>match P.info? el with
   | some inf=>bndO hi len q cap q fun h hq=>bndO lo 0 true h (hq && q) fun l lq=>
     if e = 0 then (if lq then .ret (one (.sli b i 0 (j + l * inf.size) (h - l) (cap - l) (hq && q))) else .fail)
     else if e = inf.size then .ret (one (.sli b (i + l) e j (h - l) (cap - l) (hq && lq && q))) else .fail
   | none=>.fail
  | some (.slice el),.s (.c (.own b len cap q))=>match P.info? el with
   | some inf=>bndO hi len q cap q fun h hq=>bndO lo 0 true h (hq && q) fun l lq=>.ret (one (.sli b l inf.size 0 (h - l) (cap - l) (hq && lq && q)))
   | none=>.fail
  | some (.slice el),.s (.c .nos)=>match P.info? el with
   | some inf=>bndO hi 0 true 0 true fun h hq=>bndO lo 0 true h hq fun l lq=>.ret (one .nos)
   | none=>.fail
  | _,_=>.fail
theorem slice_ok {μ : Mu} {P : Program} {w : World} {K : SV -> Prop} {t : TypeId} {x : SV} {lo hi mx : Option SV} {u : Value} {vl vh vm : Option Value} (hx : x.ok μ u) (hlo : optOk μ lo vl) (hhi : optOk μ hi vh) (hmx : optOk μ mx vm)
  (h : (sliceOut P t x lo hi mx).wp K) :
  ∃ z sv,(Instr.sliceAt t u vl vh vm).run P w = .ok z w /\ K sv /\ sv.ok μ z:=by
 unfold sliceOut at h
 cases mx with
 | some m=>
  simp only [] at h
  split at h
  ·rename_i el hu
   split at h
   ·rename_i inf hif
    split at h
    ·rename_i hc
     simp only [Bool.and_eq_true] at hc
     obtain ⟨c1,c2,c3,c4⟩:=hc
     obtain ⟨k1,rfl⟩:=zeroS_ok (P:=P) (w:=w) c1 hmx
     obtain ⟨k2,rfl⟩:=zeroS_ok (P:=P) (w:=w) c2 hhi
     obtain ⟨a,n,c,rfl⟩:=rowS_ok c4 hx
     refine ⟨.slice a 0 0,_, ?_,h,⟨a,rfl⟩⟩
     have hl : vl = none \/ ∃ k3,vl = some (.int k3 0):=by
      cases lo with
      | none=>
       cases vl with
       | none=>exact .inl rfl
       | some v=>exact hlo.elim
      | some l=>exact .inr (zeroS_ok (P:=P) (w:=w) (x:=some l) c3 hlo)
     rcases hl with rfl | ⟨k3,rfl⟩ <;> simp [Instr.sliceAt,Instr.slice,run_underlying hu,Instr.sliceBounds,Instr.sliceBound,asIntOf,run_sizeOf' hif]
    ·exact h.elim
   ·exact h.elim
  ·exact h.elim
 | none=>
 cases vm with
 | some m=>exact hmx.elim
 | none=>
 simp only [] at h
 have bounds : ∀ (isS : Bool) (len cap : Nat) (hh l : Nat),(∀ code,(match vh with | some v=>Instr.sliceBound v cap code | none=>pure len : Sem Nat).run P w = .ok hh w) →
   (∀ code,(match vl with | some v=>Instr.sliceBound v hh code | none=>pure 0 : Sem Nat).run P w = .ok l w) -> (Instr.sliceBounds isS len cap vl vh none).run P w = .ok (l,hh,cap) w:=by
  intro isS len cap hh l h1 h2
  have h2':=h2 .sliceB
  unfold Instr.sliceBounds
  cases vh with
  | none=>
   have e : len = hh:=by have:=h1 .index;simp at this;exact this
   subst e
   cases vl with
   | none=>simp at h2';simp [h2']
   | some v=>simp at h2';simp [h2']
  | some z=>
   have h1':=fun c=>h1 c
   simp at h1'
   cases vl with
   | none=>simp at h2';simp [h1',h2']
   | some v=>simp at h2';simp [h1',h2']
 split at h
 ·rename_i n el b i e j hu
  obtain ⟨l,hl,rfl⟩:=hx
  split at h
  ·rename_i inf hif
   split at h
   ·rename_i hmax
    obtain ⟨hh,hq,hle,h',hr1⟩:=bnd_ok (P:=P) (w:=w) hhi (Nat.le_refl _) h
    obtain ⟨lo',lq,hle2,h'',hr2⟩:=bnd_ok (P:=P) (w:=w) hlo (Nat.zero_le _) h'
    split at h''
    ·have hb:=bounds false n n hh lo' hr1 hr2
     refine ⟨_,_, ?_,h'',⟨l,some (if n = lo' then ⟨l.b,l.off + (i * e + j),none⟩ else ⟨l.b,l.off + (i * e + j) + lo' * inf.size,none⟩),hl,rfl, ?_,by omega, ?_⟩⟩
     ·simp [Instr.sliceAt,run_underlying hu,Instr.sureAddr,hb,run_sizeOf' hif,Addr.add_lit']
     ·intro hc
      rw [if_neg (by omega)]
      simp [Nat.add_assoc]
     ·omega
    ·exact h''.elim
   ·exact h.elim
  ·exact h.elim
 ·rename_i el b i e j len cap q hu
  obtain ⟨l,a,hl,rfl,ha,hlc,hcm⟩:=hx
  split at h
  ·rename_i inf hif
   obtain ⟨hh,hq,hle,h',hr1⟩:=bnd_ok (P:=P) (w:=w) hhi hlc h
   obtain ⟨lo',lq,hle2,h'',hr2⟩:=bnd_ok (P:=P) (w:=w) hlo (Nat.zero_le _) h'
   have hb:=bounds true len cap hh lo' hr1 hr2
   have hrun : (Instr.sliceAt t (.slice a len cap) vl vh none).run P w = .ok (.slice (if cap = lo' then a else a.map (·.add (lo' * inf.size))) (hh - lo') (cap - lo')) w:=by
    simp [Instr.sliceAt,Instr.slice,run_underlying hu,hb,run_sizeOf' hif]
   split at h''
   ·rename_i he
    subst he
    split at h''
    ·refine ⟨_,_,hrun,h'',⟨l,_,hl,rfl,fun hc=>?_,by omega,by omega⟩⟩
     rw [if_neg (by omega),ha (by omega)]
     simp [Addr.add_lit',Nat.add_assoc]
    ·exact h''.elim
   ·split at h''
    ·rename_i he
     refine ⟨_,_,hrun,h'',⟨l,_,hl,rfl,fun hc=>?_,by omega,by omega⟩⟩
     rw [if_neg (by omega),ha (by omega),← he]
     simp only [Option.map_some,Addr.add_lit',Nat.add_mul]
     congr 2
     omega
    ·exact h''.elim
  ·exact h.elim
 ·rename_i el b len cap q hu
  obtain ⟨l,a,hl,rfl,hd,ha,hlc,hcm⟩:=hx
  split at h
  ·rename_i inf hif
   obtain ⟨hh,hq,hle,h',hr1⟩:=bnd_ok (P:=P) (w:=w) hhi hlc h
   obtain ⟨lo',lq,hle2,h'',hr2⟩:=bnd_ok (P:=P) (w:=w) hlo (Nat.zero_le _) h'
   have hb:=bounds true len cap hh lo' hr1 hr2
   refine ⟨.slice (if cap = lo' then a else a.map (·.add (lo' * inf.size))) (hh - lo') (cap - lo'),_, ?_,h'',⟨l,_,hl,rfl,fun hc=>?_,by omega,by omega⟩⟩
   ·rw [hd]
    simp [Instr.sliceAt,Instr.slice,run_underlying hu,hb,run_sizeOf' hif]
   ·rw [if_neg (by omega),ha (by omega)]
    simp [Addr.add_lit']
  ·exact h.elim
 ·rename_i el hu
  obtain ⟨a,rfl⟩:=hx
  split at h
  ·rename_i inf hif
   obtain ⟨hh,hq,hle,h',hr1⟩:=bnd_ok (P:=P) (w:=w) hhi (Nat.le_refl _) h
   obtain ⟨lo',lq,hle2,h'',hr2⟩:=bnd_ok (P:=P) (w:=w) hlo (Nat.zero_le _) h'
   have hb:=bounds true 0 0 hh lo' hr1 hr2
   have e1 : hh = 0:=by omega
   have e2 : lo' = 0:=by omega
   subst e1;subst e2
   refine ⟨.slice a 0 0,_, ?_,h'',⟨a,rfl⟩⟩
   simp [Instr.sliceAt,Instr.slice,run_underlying hu,hb,run_sizeOf' hif]
  ·exact h.elim
 ·exact h.elim
def partOut (P : Program) (t : TypeId) (cs : List SC) (off : Nat) : Out SV:=
 match P.underlying t,P.info? t with
 | some d,some inf=>if agD d then .ret (.s (.a ((cs.drop off).take inf.size))) else
   match cs[off]? with
   | some c=>.ret (one c)
   | none=>.fail
 | _,_=>.fail
theorem part_ok {μ : Mu} {P : Program} {w : World} {K : SV -> Prop} {t : TypeId} {cs : List SC} {vs : List Value} {off : Nat} (ha : All2 (SC.ok μ) cs vs) (h : (partOut P t cs off).wp K) :
  ∃ z sv,(part t vs.toArray off).run P w = .ok z w /\ K sv /\ sv.ok μ z:=by
 unfold partOut at h
 split at h
 ·rename_i d inf hu hi
  split at h
  ·rename_i hag
   refine ⟨.agg (vs.toArray.extract off (off + inf.size)),_, ?_,h,⟨(vs.drop off).take inf.size, ?_,(ha.drop off).take inf.size⟩⟩
   ·simp [part,run_isAgg hu,hag,run_sizeOf' hi]
   ·congr 1
    simp [List.extract_eq_take_drop]
  ·rename_i hag
   split at h
   ·rename_i c hc
    obtain ⟨v,hv,hok⟩:=ha.get off c hc
    exact ⟨v,_,by simp [part,run_isAgg hu,hag,hv],h,hok⟩
   ·exact h.elim
 ·exact h.elim
def fieldV (P : Program) (s : TypeId) (x : SV) (f : Nat) : Out SV:=
 match P.underlying s,x.agg? with
 | some (.struct fs),some cs=>match fs[f]? with
  | some fd=>partOut P fd.type cs fd.offset
  | none=>.fail
 | _,_=>.fail
theorem fieldV_ok {μ : Mu} {P : Program} {w : World} {K : SV -> Prop} {s : TypeId} {x : SV} {u : Value} {f : Nat} (hx : x.ok μ u) (h : (fieldV P s x f).wp K) :
  ∃ z sv,(Instr.field s u f).run P w = .ok z w /\ K sv /\ sv.ok μ z:=by
 unfold fieldV at h
 split at h
 ·rename_i fs cs hu hc
  obtain ⟨vs,rfl,ha⟩:=SV.agg_ok hc hx
  split at h
  ·rename_i fd hf
   obtain ⟨z,sv,h1,h2,h3⟩:=part_ok (w:=w) ha h
   exact ⟨z,sv,by simp [Instr.field,run_underlying hu,hf,asAgg,h1],h2,h3⟩
  ·exact h.elim
 ·exact h.elim
def indexV (P : Program) (t : TypeId) (x ix : SV) : Out SV:=
 match P.underlying t,x.agg?,ix.int? with
 | some (.array len el),some cs,some (_,n,c)=>match P.info? el with
  | some inf=>need c (0 <= n /\ n < len) (if c then partOut P el cs (n.toNat * inf.size) else splitN n (fun m=>partOut P el cs (m * inf.size)) 0 len)
  | none=>.fail
 | _,_,_=>.fail
theorem indexV_ok {μ : Mu} {P : Program} {w : World} {K : SV -> Prop} {t : TypeId} {x ix : SV} {u v : Value} (hx : x.ok μ u) (hi : ix.ok μ v) (h : (indexV P t x ix).wp K) :
  ∃ z sv,(Instr.index t u v).run P w = .ok z w /\ K sv /\ sv.ok μ z:=by
 unfold indexV at h
 split at h
 ·rename_i len el cs k n c hu hc hn
  obtain ⟨vs,rfl,ha⟩:=SV.agg_ok hc hx
  have:=SV.int_ok hn hi
  subst this
  split at h
  ·rename_i inf hif
   obtain ⟨⟨h0,h1⟩,h⟩:=need_ok h
   have hrun : ∀ z,(part el vs.toArray (n.toNat * inf.size)).run P w = .ok z w -> (Instr.index t (.agg vs.toArray) (.int k n)).run P w = .ok z w:=fun z hz=>by
    simp [Instr.index,asIntOf,run_underlying hu,h0,h1,run_sizeOf' hif,hz]
   split at h
   ·obtain ⟨z,sv,h1,h2,h3⟩:=part_ok (w:=w) ha h
    exact ⟨z,sv,hrun z h1,h2,h3⟩
   ·obtain ⟨m,rfl,hm⟩:=splitN_ok (by omega) (by omega) h
    obtain ⟨z,sv,h1,h2,h3⟩:=part_ok (w:=w) ha hm
    exact ⟨z,sv,hrun z (by simpa using h1),h2,h3⟩
  ·exact h.elim
 ·exact h.elim
def extractOut (x : SV) (i : Nat) : Out SV:=
 match x with
 | .t xs=>match xs[i]? with
  | some y=>.ret (.s y)
  | none=>.fail
 | _=>.fail
theorem extract_ok {μ : Mu} {P : Program} {w : World} {K : SV -> Prop} {x : SV} {u : Value} {i : Nat} (hx : x.ok μ u) (h : (extractOut x i).wp K) :
  ∃ z sv,(Instr.extract u i).run P w = .ok z w /\ K sv /\ sv.ok μ z:=by
 unfold extractOut at h
 split at h
 ·rename_i xs
  obtain ⟨vs,rfl,ha⟩:=hx
  split at h
  ·rename_i y hy
   obtain ⟨v,hv,hok⟩:=ha.get i y hy
   exact ⟨v,_,by simp [Instr.extract,hv],h,hok⟩
  ·exact h.elim
 ·exact h.elim
def mkN (q : Bool) (n : Nat) : SV:=if q then one (.num .i64 n) else one (.int .i64 n)
theorem mkN_ok (μ : Mu) (q : Bool) (n : Nat) : (mkN q n).ok μ (.int .i64 n):=by cases q <;> rfl
def lenOut (P : Program) (t : TypeId) (x : SV) : Out SV:=
 match P.underlying t,x with
 | some (.slice _),.s (.c (.sli _ _ _ _ n _ q))=>.ret (mkN q n)
 | some (.slice _),.s (.c (.own _ n _ q))=>.ret (mkN q n)
 | some (.slice _),.s (.c .nos)=>.ret (mkN true 0)
 | some (.slice _),.s (.c (.zs _ n _ q))=>.ret (mkN q n)
 | some (.slice _),.s (.c (.zsa _ _ _ n _))=>.ret (mkN false n)
 | some .string,.s (.c (.str z))=>.ret (mkN false z.size)
 | some (.array n _),_=>.ret (mkN true n)
 | _,_=>.fail
theorem len_ok {μ : Mu} {P : Program} {w : World} {K : SV -> Prop} {t ty : TypeId} {x : SV} {u : Value} (hx : x.ok μ u) (h : (lenOut P t x).wp K) :
  ∃ z sv,(Builtin.len_ #[t] ty #[u]).run P w = .ok z w /\ K sv /\ sv.ok μ z:=by
 unfold lenOut at h
 split at h
 ·rename_i hu
  obtain ⟨l,a,hl,rfl,_⟩:=hx
  exact ⟨_,_,by simp [Builtin.len_,run_underlying hu,goInt],h,mkN_ok μ _ _⟩
 ·rename_i hu
  obtain ⟨l,a,hl,rfl,hd,_⟩:=hx
  exact ⟨_,_,by rw [hd];simp [Builtin.len_,run_underlying hu,goInt],h,mkN_ok μ _ _⟩
 ·rename_i hu
  obtain ⟨a,rfl⟩:=hx
  exact ⟨.int .i64 (0 : Nat),_,by simp [Builtin.len_,run_underlying hu,goInt],h,mkN_ok μ _ _⟩
 ·rename_i hu
  obtain ⟨a,rfl,_⟩:=hx
  exact ⟨_,_,by simp [Builtin.len_,run_underlying hu,goInt],h,mkN_ok μ _ _⟩
 ·rename_i hu
  obtain ⟨a,rfl,_⟩:=hx
  exact ⟨_,_,by simp [Builtin.len_,run_underlying hu,goInt],h,mkN_ok μ _ _⟩
 ·rename_i z hu
  have : u = .string z:=hx
  subst this
  exact ⟨_,_,by simp [Builtin.len_,run_underlying hu,goInt],h,mkN_ok μ _ _⟩
 ·rename_i hu
  exact ⟨_,_,by simp [Builtin.len_,run_underlying hu,goInt],h,mkN_ok μ _ _⟩
 ·exact h.elim
def AllV (μ : Mu) : List SV -> List Value -> Prop
 | [],[]=>True
 | x :: xs,v :: vs=>x.ok μ v /\ AllV μ xs vs
 | _,_=>False
end
end Zx
namespace Zx
noncomputable section
open Go
theorem beqBytes (a b : ByteArray) : (a == b) = true ↔ a = b := by
 obtain ⟨⟨x⟩⟩ := a
 obtain ⟨⟨y⟩⟩ := b
 show ((⟨x⟩ : Array UInt8) == ⟨y⟩) = true ↔ _
 simp
def eqLeaf : TypeDesc -> SC -> SC -> Option Prop
 | .int _, .num k a, .num k' b => if k = k' then some (a = b) else none
 | .int _, .num k a, .int k' b => if k = k' then some (a = b) else none
 | .int _, .int k a, .num k' b => if k = k' then some (a = b) else none
 | .int _, .int k a, .int k' b => if k = k' then some (a = b) else none
 | .bool, .tru a, .tru b => some (a = b)
 | .bool, .tru a, .boo b => some (a = b)
 | .bool, .boo a, .tru b => some (a = b)
 | .bool, .boo a, .boo b => some (a = b)
 | .string, .str a, .str b => some (a = b)
 | _, _, _ => none
theorem eqLeaf_ok {P : Program} {μ : Mu} {w : World} {t : TypeId} {d : TypeDesc} {x y : SC} {u v : Value} {p : Prop} (hd : P.underlying t = some d) (h : eqLeaf d x y = some p) (hx : x.ok μ u) (hy : y.ok μ v) (m : Nat) :
  ∃ b : Bool, (Op.equalIn (m + 1) t u v).run P w = .ok b w /\ (b = true ↔ p) := by
 have int : ∀ {k k' k0 : IntKind} {a b : Int}, P.underlying t = some (.int k0) -> u = .int k a -> v = .int k' b -> (if k = k' then some (a = b) else none) = some p -> ∃ b : Bool, (Op.equalIn (m + 1) t u v).run P w = .ok b w /\ (b = true ↔ p) := by
  intro k k' k0 a b hd hu hv h
  subst hu; subst hv
  split at h
  ·rename_i hk; subst hk
   cases h
   exact ⟨a == b, run_equalIn_int w m t k k0 a b hd, by simp⟩
  ·cases h
 have bool : ∀ {a b : Bool}, P.underlying t = some .bool -> u = .bool a -> v = .bool b -> some (a = b) = some p -> ∃ b : Bool, (Op.equalIn (m + 1) t u v).run P w = .ok b w /\ (b = true ↔ p) := by
  intro a b hd hu hv h
  subst hu; subst hv
  cases h
  exact ⟨a == b, run_equalIn_bool' w m t a b hd, by simp⟩
 unfold eqLeaf at h
 split at h
 ·exact int hd hx hy h
 ·exact int hd hx hy h
 ·exact int hd hx hy h
 ·exact int hd hx hy h
 ·exact bool hd hx hy h
 ·exact bool hd hx hy h
 ·exact bool hd hx hy h
 ·exact bool hd hx hy h
 ·rename_i a b
  have e1 : u = .string a := hx
  have e2 : v = .string b := hy
  subst e1; subst e2
  cases h
  refine ⟨a == b, ?_, beqBytes a b⟩
  rw [run_equalIn_string w m t a b hd, beq_toListBytes]
 ·cases h
def conjP : List Prop -> Prop
 | [] => True
 | [p] => p
 | p :: q :: ps => p /\ conjP (q :: ps)
theorem conjP_cons (p : Prop) (ps : List Prop) : conjP (p :: ps) ↔ p /\ conjP ps := by
 cases ps with
 | nil => simp [conjP]
 | cons q ps => rfl
theorem conjP_append (ps qs : List Prop) : conjP (ps ++ qs) ↔ conjP ps /\ conjP qs := by
 induction ps with
 | nil => simp [conjP]
 | cons p ps ih => rw [List.cons_append, conjP_cons, conjP_cons, ih, and_assoc]
def partS (P : Program) (t : TypeId) (cs : List SC) (off : Nat) : Option (List SC) :=
 match P.underlying t, P.info? t with
 | some d, some inf => if agD d then some ((cs.drop off).take inf.size) else
   match cs[off]? with
   | some c => some [c]
   | none => none
 | _, _ => none
def VR (P : Program) (μ : Mu) (t : TypeId) (cs : List SC) (v : Value) : Prop :=
 ∃ d, P.underlying t = some d /\ if agD d then ∃ vs : List Value, v = .agg vs.toArray /\ All2 (SC.ok μ) cs vs else ∃ c, cs = [c] /\ c.ok μ v
theorem partS_ok {P : Program} {μ : Mu} {w : World} {t : TypeId} {cs xs : List SC} {vs : List Value} {off : Nat} (ha : All2 (SC.ok μ) cs vs) (h : partS P t cs off = some xs) :
  ∃ z, (part t vs.toArray off).run P w = .ok z w /\ VR P μ t xs z := by
 unfold partS at h
 split at h
 ·rename_i d inf hu hi
  split at h
  ·rename_i hag
   cases h
   refine ⟨.agg (vs.toArray.extract off (off + inf.size)), by simp [part, run_isAgg hu, hag, run_sizeOf' hi], d, hu, ?_⟩
   rw [if_pos hag]
   exact ⟨(vs.drop off).take inf.size, by simp [List.extract_eq_take_drop], (ha.drop off).take inf.size⟩
  ·rename_i hag
   split at h
   ·rename_i c hc
    cases h
    obtain ⟨v, hv, hok⟩ := ha.get off c hc
    exact ⟨v, by simp [part, run_isAgg hu, hag, hv], d, hu, by rw [if_neg hag]; exact ⟨c, rfl, hok⟩⟩
   ·cases h
 ·cases h
def eqFs (P : Program) (rec : TypeId -> List SC -> List SC -> Option (List Prop)) (xs ys : List SC) : List Field -> Option (List Prop)
 | [] => some []
 | f :: fs => if f.name = "_" then eqFs P rec xs ys fs else
  match partS P f.type xs f.offset, partS P f.type ys f.offset with
  | some a, some b => match rec f.type a b, eqFs P rec xs ys fs with
   | some p, some q => some (p ++ q)
   | _, _ => none
  | _, _ => none
def eqIs (P : Program) (rec : List SC -> List SC -> Option (List Prop)) (e : TypeId) (n : Nat) (xs ys : List SC) : List Nat -> Option (List Prop)
 | [] => some []
 | i :: is =>
  match partS P e xs (i * n), partS P e ys (i * n) with
  | some a, some b => match rec a b, eqIs P rec e n xs ys is with
   | some p, some q => some (p ++ q)
   | _, _ => none
  | _, _ => none
def eqP (P : Program) : Nat -> TypeId -> List SC -> List SC -> Option (List Prop)
 | 0, _, _, _ => none
 | d + 1, t, xs, ys =>
  match P.underlying t with
  | some (.struct fs) => if P.stoodInHeld t then none else eqFs P (eqP P d) xs ys fs.toList
  | some (.array n e) => match P.info? e with
   | some _ => eqIs P (eqP P d e) e (P.cellsOf e) xs ys (List.range n)
   | none => none
  | some dd => match xs, ys with
   | [x], [y] => match eqLeaf dd x y with
    | some p => some [p]
    | none => none
   | _, _ => none
  | none => none
theorem eqFs_ok {P : Program} {μ : Mu} {w : World} {m : Nat} {rec : TypeId -> List SC -> List SC -> Option (List Prop)}
  (hrec : ∀ t xs ys ps u v, rec t xs ys = some ps -> VR P μ t xs u -> VR P μ t ys v -> ∃ b : Bool, (Op.equalIn m t u v).run P w = .ok b w /\ (b = true ↔ conjP ps)) {xs ys : List SC} {us vs : List Value}
  (hx : All2 (SC.ok μ) xs us) (hy : All2 (SC.ok μ) ys vs) : ∀ (fs : List Field) (ps : List Prop), eqFs P rec xs ys fs = some ps -> ∃ b : Bool, (Op.eqFields m us.toArray vs.toArray fs).run P w = .ok b w /\ (b = true ↔ conjP ps)
 | [], ps, h => by cases h; exact ⟨true, rfl, by simp [conjP]⟩
 | f :: fs, ps, h => by
  simp only [eqFs] at h
  split at h
  ·rename_i hn
   obtain ⟨b, h1, h2⟩ := eqFs_ok hrec hx hy fs ps h
   exact ⟨b, by simp [Op.eqFields, hn, h1], h2⟩
  ·rename_i hn
   split at h
   ·rename_i a b ha hb
    obtain ⟨z1, g1, g2⟩ := partS_ok (w := w) hx ha
    obtain ⟨z2, g3, g4⟩ := partS_ok (w := w) hy hb
    split at h
    ·rename_i p q hp hq
     cases h
     obtain ⟨b1, k1, k2⟩ := hrec _ _ _ _ _ _ hp g2 g4
     obtain ⟨b2, k3, k4⟩ := eqFs_ok hrec hx hy fs q hq
     cases b1
     ·refine ⟨false, by simp [Op.eqFields, hn, g1, g3, k1], ?_⟩
      rw [conjP_append]
      simp only [Bool.false_eq_true, false_iff] at k2 ⊢
      exact fun hh => k2 hh.1
     ·refine ⟨b2, by simp [Op.eqFields, hn, g1, g3, k1, k3], ?_⟩
      rw [conjP_append, k4]
      simp only [true_iff] at k2
      simp [k2]
    ·cases h
   ·cases h
theorem eqIs_ok {P : Program} {μ : Mu} {w : World} {m n : Nat} {e : TypeId} {rec : List SC -> List SC -> Option (List Prop)}
  (hrec : ∀ xs ys ps u v, rec xs ys = some ps -> VR P μ e xs u -> VR P μ e ys v -> ∃ b : Bool, (Op.equalIn m e u v).run P w = .ok b w /\ (b = true ↔ conjP ps)) {xs ys : List SC} {us vs : List Value}
  (hx : All2 (SC.ok μ) xs us) (hy : All2 (SC.ok μ) ys vs) : ∀ (is : List Nat) (ps : List Prop), eqIs P rec e n xs ys is = some ps -> ∃ b : Bool, (Op.eqItems m e n us.toArray vs.toArray is).run P w = .ok b w /\ (b = true ↔ conjP ps)
 | [], ps, h => by cases h; exact ⟨true, by simp [Op.eqItems], by simp [conjP]⟩
 | i :: is, ps, h => by
  simp only [eqIs] at h
  split at h
  ·rename_i a b ha hb
   obtain ⟨z1, g1, g2⟩ := partS_ok (w := w) hx ha
   obtain ⟨z2, g3, g4⟩ := partS_ok (w := w) hy hb
   split at h
   ·rename_i p q hp hq
    cases h
    obtain ⟨b1, k1, k2⟩ := hrec _ _ _ _ _ hp g2 g4
    obtain ⟨b2, k3, k4⟩ := eqIs_ok hrec hx hy is q hq
    cases b1
    ·refine ⟨false, by simp [Op.eqItems, g1, g3, k1], ?_⟩
     rw [conjP_append]
     simp only [Bool.false_eq_true, false_iff] at k2 ⊢
     exact fun hh => k2 hh.1
    ·refine ⟨b2, by simp [Op.eqItems, g1, g3, k1, k3], ?_⟩
     rw [conjP_append, k4]
     simp only [true_iff] at k2
     simp [k2]
   ·cases h
  ·cases h
theorem eqP_ok {P : Program} {μ : Mu} {w : World} : ∀ (d m : Nat) (t : TypeId) (xs ys : List SC) (ps : List Prop) (u v : Value), eqP P d t xs ys = some ps -> VR P μ t xs u -> VR P μ t ys v →
  ∃ b : Bool, (Op.equalIn (m + d) t u v).run P w = .ok b w /\ (b = true ↔ conjP ps)
 | 0, _, _, _, _, _, _, _, h, _, _ => by cases h
 | d + 1, m, t, xs, ys, ps, u, v, h, hx, hy => by
  obtain ⟨dx, hdx, hx⟩ := hx
  obtain ⟨dy, hdy, hy⟩ := hy
  rw [hdx] at hdy
  cases hdy
  simp only [eqP, hdx] at h
  split at h
  ·rename_i fs he
   cases he
   simp only [agD, if_true] at hx hy
   obtain ⟨us, rfl, hxa⟩ := hx
   obtain ⟨vs, rfl, hya⟩ := hy
   split at h
   ·cases h
   ·rename_i hst
    obtain ⟨b, h1, h2⟩ := eqFs_ok (P := P) (w := w) (m := m + d) (fun t xs ys ps u v h hx hy => eqP_ok d m t xs ys ps u v h hx hy) hxa hya fs.toList ps h
    refine ⟨b, ?_, h2⟩
    have hf : P.fieldsOf t = fs := by simp [Program.fieldsOf, hdx]
    rw [← Nat.add_assoc, run_equalIn_struct w (m + d) t us.toArray vs.toArray (by rw [hf]; exact hdx) (by simpa using hst), hf]
    exact h1
  ·rename_i n e he
   cases he
   simp only [agD, if_true] at hx hy
   obtain ⟨us, rfl, hxa⟩ := hx
   obtain ⟨vs, rfl, hya⟩ := hy
   split at h
   ·rename_i inf hi
    obtain ⟨b, h1, h2⟩ := eqIs_ok (P := P) (w := w) (m := m + d) (fun xs ys ps u v h hx hy => eqP_ok d m e xs ys ps u v h hx hy) hxa hya _ ps h
    refine ⟨b, ?_, h2⟩
    rw [← Nat.add_assoc, run_equalIn_array w (m + d) us.toArray vs.toArray hdx hi]
    exact h1
   ·cases h
  ·rename_i dd hns hna he
   cases he
   have hag : agD dx = false := by
    cases dx <;> first | rfl | exact absurd rfl (hns _) | exact absurd rfl (hna _ _)
   simp only [hag, Bool.false_eq_true, if_false] at hx hy
   obtain ⟨c1, rfl, hc1⟩ := hx
   obtain ⟨c2, rfl, hc2⟩ := hy
   simp only [] at h
   split at h
   ·rename_i p hp
    cases h
    obtain ⟨b, h1, h2⟩ := eqLeaf_ok (w := w) hdx hp hc1 hc2 (m + d)
    exact ⟨b, by rw [← Nat.add_assoc]; exact h1, by simpa [conjP] using h2⟩
   ·cases h
  ·rename_i he
   cases he
def eqOut (P : Program) (op : BinOp) (t : TypeId) (xs ys : List SC) : Out SV :=
 if P.eqGuardType P.depth t then .fail else
 match P.underlying t, eqP P 20 t xs ys with
 | some d, some ps => if agD d then
   match op with
   | .eql => .br (conjP ps) oT oF
   | .neq => .br (conjP ps) oF oT
   | _ => .fail
  else .fail
 | _, _ => .fail
theorem eq_ok {μ : Mu} {P : Program} {w : World} {K : SV -> Prop} {op : BinOp} {t : TypeId} {x y : Operand} {xs ys : List SC} {us vs : List Value} (hx : All2 (SC.ok μ) xs us) (hy : All2 (SC.ok μ) ys vs) (h : (eqOut P op t xs ys).wp K) :
  ∃ z sv, (do eqGuard op t x y (.agg us.toArray) (.agg vs.toArray); binOp op t (.agg us.toArray) (.agg vs.toArray)).run P w = .ok z w /\ K sv /\ sv.ok μ z := by
 unfold eqOut at h
 split at h
 ·exact h.elim
 ·rename_i hg
  split at h
  ·rename_i d ps hd hps
   split at h
   ·rename_i hag
    have hr := run_eqGuard_agg (P := P) w op t x y us.toArray vs.toArray (by simpa using hg)
    obtain ⟨b, h1, h2⟩ := eqP_ok (P := P) (μ := μ) (w := w) 20 9980 t xs ys ps (.agg us.toArray) (.agg vs.toArray) hps ⟨d, hd, by rw [if_pos hag]; exact ⟨us, rfl, hx⟩⟩ ⟨d, hd, by rw [if_pos hag]; exact ⟨vs, rfl, hy⟩⟩
    have he : (Op.equalIn 10000 t (.agg us.toArray) (.agg vs.toArray)).run P w = .ok b w := h1
    cases op <;> simp only [] at h <;> try exact h.elim
    ·refine ⟨.bool b, ?_⟩
     have hb : (do eqGuard .eql t x y (.agg us.toArray) (.agg vs.toArray); binOp .eql t (.agg us.toArray) (.agg vs.toArray) : Sem Value).run P w = .ok (.bool b) w := by
      rw [Sem.run_bind, hr]; simp only [Result.andThen_ok]; rw [run_eql_struct, he]; rfl
     by_cases hc : conjP ps
     ·exact ⟨_, hb, h.1 hc, okT (h2.2 hc)⟩
     ·exact ⟨_, hb, h.2 hc, okF (by cases b; rfl; exact absurd (h2.1 rfl) hc)⟩
    ·refine ⟨.bool (!b), ?_⟩
     have hb : (do eqGuard .neq t x y (.agg us.toArray) (.agg vs.toArray); binOp .neq t (.agg us.toArray) (.agg vs.toArray) : Sem Value).run P w = .ok (.bool (!b)) w := by
      rw [Sem.run_bind, hr]; simp only [Result.andThen_ok]; rw [run_neq_struct, he]; rfl
     by_cases hc : conjP ps
     ·exact ⟨_, hb, h.1 hc, okF (by simp [h2.2 hc])⟩
     ·exact ⟨_, hb, h.2 hc, okT (by cases b; rfl; exact absurd (h2.1 rfl) hc)⟩
   ·exact h.elim
  ·exact h.elim
def strEq (op : BinOp) (a b : ByteArray) : Out SV :=
 match op with
 | .eql => .br (a = b) oT oF
 | .neq => .br (a = b) oF oT
 | _ => .fail
theorem str_out_ok {μ : Mu} {P : Program} {w : World} {K : SV -> Prop} {op : BinOp} {t : TypeId} {a b : ByteArray} (hu : P.underlying t = some .string) (h : (strEq op a b).wp K) :
  ∃ z sv, (binOp op t (.string a) (.string b)).run P w = .ok z w /\ K sv /\ sv.ok μ z := by
 have hb : (a.toList == b.toList) = decide (a = b) := by
  rw [← beq_toListBytes]
  have := beqBytes a b
  by_cases hc : a = b
  ·rw [this.2 hc]; simp [hc]
  ·have hn : ¬ (a == b) = true := fun h => hc (this.1 h)
   simp at hn
   rw [hn]; simp [hc]
 cases op <;> simp only [strEq] at h <;> try exact h.elim
 ·refine ⟨.bool (decide (a = b)), ?_⟩
  have hr : (binOp .eql t (.string a) (.string b)).run P w = .ok (.bool (decide (a = b))) w := by simp [binOp, Op.stringOp, hb]
  obtain ⟨h1, h2⟩ := h
  by_cases hc : a = b
  ·exact ⟨_, hr, h1 hc, okT (by simp [hc])⟩
  ·exact ⟨_, hr, h2 hc, okF (by simp [hc])⟩
 ·refine ⟨.bool (!decide (a = b)), ?_⟩
  have hr : (binOp .neq t (.string a) (.string b)).run P w = .ok (.bool (!decide (a = b))) w := by simp [binOp, Op.stringOp, hb]
  obtain ⟨h1, h2⟩ := h
  by_cases hc : a = b
  ·exact ⟨_, hr, h1 hc, okF (by simp [hc])⟩
  ·exact ⟨_, hr, h2 hc, okT (by simp [hc])⟩
def fillS (place : Nat -> Option (Nat × Nat)) (cells : List SC) : List (Nat × SV) -> Option (List SC)
 | [] => some cells
 | (i, v) :: rest =>
  match place i, v.cells? with
  | some (off, size), some cs => if cs.length = size /\ off + cs.length <= cells.length then fillS place (setAt cells off cs) rest else none
  | _, _ => none
def AllP (μ : Mu) : List (Nat × SV) -> List (Nat × Value) -> Prop
 | [], [] => True
 | (i, x) :: xs, (j, v) :: vs => i = j /\ x.ok μ v /\ AllP μ xs vs
 | _, _ => False
theorem foldl_set (off : Nat) : ∀ (vs : List Value) (k : Nat) (cells : Array Value), off + k + vs.length <= cells.size →
  ((vs.zipIdx k).foldl (fun cs (c, j) => cs.setIfInBounds (off + j) c) cells).toList = cells.toList.take (off + k) ++ vs ++ cells.toList.drop (off + k + vs.length)
 | [], k, cells, h => by simp
 | v :: vs, k, cells, h => by
  simp only [List.zipIdx_cons, List.foldl_cons]
  rw [foldl_set off vs (k + 1) (cells.setIfInBounds (off + k) v) (by simp at h ⊢; omega)]
  have := list_seg_step cells.toList (off + k) v vs (by simp at h ⊢; omega)
  simpa [Array.toList_setIfInBounds, Nat.add_assoc] using this
theorem fill_ok {μ : Mu} {place : Nat -> Option (Nat × Nat)} : ∀ {parts : List (Nat × SV)} {vparts : List (Nat × Value)} {cells out : List SC} {vs : List Value}, AllP μ parts vparts -> All2 (SC.ok μ) cells vs -> fillS place cells parts = some out →
  ∃ us : List Value, Instr.fill place vs.toArray vparts = some us.toArray /\ All2 (SC.ok μ) out us
 | [], [], cells, out, vs, _, ha, h => by cases h; exact ⟨vs, rfl, ha⟩
 | (i, x) :: xs, (j, v) :: rest, cells, out, vs, hp, ha, h => by
  obtain ⟨rfl, hx, hr⟩ := hp
  simp only [fillS] at h
  split at h
  ·rename_i off size cs hpl hc
   split at h
   ·rename_i hcond
    obtain ⟨h1, h2⟩ := hcond
    have hv := SV.cells_ok hc hx
    have hl := hv.len
    have hal := ha.len
    have hsz : v.cells.size = size := by rw [← h1, ← hl]; simp
    obtain ⟨us, g1, g2⟩ := fill_ok hr (ha.setAt (j := off) hv) h
    refine ⟨us, ?_, g2⟩
    simp only [Instr.fill, hpl]
    rw [if_neg (by simp only [hsz, List.size_toArray]; simp; omega)]
    rw [← g1]
    congr 1
    apply Array.toList_inj.1
    have hf := foldl_set off v.cells.toList 0 vs.toArray (by simp at hl ⊢; omega)
    rw [← Array.foldl_toList, Array.toList_zipIdx, hf]
    simp
   ·cases h
  ·cases h
 | [], _ :: _, _, _, _, hp, _, _ => hp.elim
 | _ :: _, [], _, _, _, hp, _, _ => hp.elim
def placesL (P : Program) : List Field -> Option (List (Nat × Nat))
 | [] => some []
 | f :: fs => match P.info? f.type, placesL P fs with
  | some inf, some l => some ((f.offset, inf.size) :: l)
  | _, _ => none
theorem places_ok {P : Program} {w : World} : ∀ {fs : List Field} {l : List (Nat × Nat)}, placesL P fs = some l -> (fs.mapM fun f => Prod.mk f.offset <$> Go.sizeOf f.type).run P w = .ok l w
 | [], l, h => by cases h; rfl
 | f :: fs, l, h => by
  simp only [placesL] at h
  split at h
  ·rename_i inf l' hi hl
   cases h
   rw [List.mapM_cons]
   simp [run_sizeOf' hi, places_ok hl]
  ·cases h
def buildOut (P : Program) (t : TypeId) (parts : List (Nat × SV)) : Out SV :=
 match P.info? t, P.underlying t with
 | some inf, some (.struct fs) => match inf.zero, placesL P fs.toList with
  | some z, some pl => match constL z.cells.toList with
   | some cs => match fillS (fun i => pl[i]?) cs parts with
    | some out => .ret (.s (.a out))
    | none => .fail
   | none => .fail
  | _, _ => .fail
 | some inf, some (.array n e) => match inf.zero, P.info? e with
  | some z, some ie => match constL z.cells.toList with
   | some cs => match fillS (fun i => some (i * ie.size, ie.size)) cs parts with
    | some out => .ret (.s (.a out))
    | none => .fail
   | none => .fail
  | _, _ => .fail
 | _, _ => .fail
theorem build_ok {μ : Mu} {P : Program} {w : World} {K : SV -> Prop} {t : TypeId} {parts : List (Nat × SV)} {vparts : List (Nat × Value)} (hp : AllP μ parts vparts) (h : (buildOut P t parts).wp K) :
  ∃ z sv, (Instr.build t vparts.toArray).run P w = .ok z w /\ K sv /\ sv.ok μ z := by
 unfold buildOut at h
 split at h
 ·rename_i inf fs hi hu
  split at h
  ·rename_i z pl hz hpl
   split at h
   ·rename_i cs hcs
    split at h
    ·rename_i out hf
     obtain ⟨us, g1, g2⟩ := fill_ok hp (constL_ok hcs) hf
     refine ⟨.agg us.toArray, _, ?_, h, ⟨us, rfl, g2⟩⟩
     have hpl' := places_ok (w := w) hpl
     have hm : (fs.mapM fun f => Prod.mk f.offset <$> Go.sizeOf f.type).run P w = .ok pl.toArray w := by
      rw [Array.mapM_eq_mapM_toList, Sem.run_map, hpl']
      rfl
     have g1' : Instr.fill (fun i => pl[i]?) z.cells vparts = some us.toArray := by rw [← g1]
     simp [Instr.build, zeroValue, typeInfo, hi, hz, run_underlying hu, hm, g1']
    ·exact h.elim
   ·exact h.elim
  ·exact h.elim
 ·rename_i inf n e hi hu
  split at h
  ·rename_i z ie hz hie
   split at h
   ·rename_i cs hcs
    split at h
    ·rename_i out hf
     obtain ⟨us, g1, g2⟩ := fill_ok hp (constL_ok hcs) hf
     refine ⟨.agg us.toArray, _, ?_, h, ⟨us, rfl, g2⟩⟩
     have g1' : Instr.fill (fun i => some (i * ie.size, ie.size)) z.cells vparts = some us.toArray := by rw [← g1]
     simp [Instr.build, zeroValue, typeInfo, hi, hz, run_underlying hu, run_sizeOf' hie, g1']
    ·exact h.elim
   ·exact h.elim
  ·exact h.elim
 ·exact h.elim
end
end Zx
