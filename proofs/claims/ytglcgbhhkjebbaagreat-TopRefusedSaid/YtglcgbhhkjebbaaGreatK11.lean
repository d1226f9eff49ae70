/- A part of the proof: lemmas. No condition of its own. -/
import Derived.Lib.AppendZerosOnto
import Derived.Test.YtglcgbhhkjebbaaGreatK10
set_option linter.unusedVariables false
set_option linter.unusedSimpArgs false
namespace Vx
noncomputable section
open Go Zx
def dropC (L : List Nat) (l : List Cell) : List Cell:=@List.rec Cell (fun _=>List Cell) [] (fun m _ ih=>@Bool.rec (fun _=>List Cell) (m :: ih) ih (memN m.c.tag L)) l
theorem dropC_cons (L : List Nat) (x : Cell) (ms : List Cell) : dropC L (x :: ms) = @Bool.rec (fun _=>List Cell) (x :: dropC L ms) (dropC L ms) (memN x.c.tag L):=rfl
theorem dropC_ok {L : List Nat} : ∀ {ms : List Cell} {m : Cell},m ∈ dropC L ms -> m ∈ ms /\ m.c.tag ∉ L
 | [],m,h=>by cases h
 | x :: ms,m,h=>by
  rw [dropC_cons] at h
  cases e : memN x.c.tag L with
  | true=>rw [e] at h;have:=dropC_ok h;exact ⟨by simp [this.1],this.2⟩
  | false=>
   rw [e] at h
   rcases List.mem_cons.1 h with rfl | h
   ·exact ⟨by simp,memN_no e⟩
   ·have:=dropC_ok h;exact ⟨by simp [this.1],this.2⟩
theorem MOk.over {E : Ent} {sg : Sig} {κ : Kn} {ρ : Vl} {d : Ds} {w : World} (hm : MOk E sg κ ρ d w) {b k : Nat} {L : List CS} {T : List Nat} {us : List Value} {cur : Array Value} {t : TF} (hh : w.heap[b]? = some (.cells cur t.1 t.2)) (hs : Sits sg b k L) (hAC : AllC sg L us) (hne : us ≠ []) (hsz : k + us.length <= cur.size)
  {T' : List Nat} (hT : ∀ c ∈ L,c.tag ∈ T) (hW : MayB E b T) (hO : (∀ g ∈ T,g ∈ T') \/ E.w.heap.size <= b) :
  MOk E sg κ ρ ⟨dropC T d.memo,d.adr,keepG T T' d.G⟩ (w.setRow b (cur.toList.take (k + 0) ++ us ++ cur.toList.drop (k + 0 + us.length)).toArray):=by
 have hlen : us.length = L.length:=hAC.len
 have hM : HeapM (mu sg) (fun _=>none) w:=⟨fun _ _ h=>(by cases h),fun _ _ _ _ _ _ _ _ h=>(by cases h),hm.zone,fun _ _ _ _ _ h=>(by cases h)⟩
 have eff:=Eff.zwrite (base:=0) hM hh hs (by omega) (by rw [hlen,List.take_length];exact hAC) hsz hne
 have hget : ∀ x,(cur.toList.take (k + 0) ++ us ++ cur.toList.drop (k + 0 + us.length)).toArray[x]? = if x < k then cur[x]? else if x < k + us.length then us[x - k]? else cur[x]?:=fun x=>splice_cells hsz
 have hrow:=setRow_heap w b cur (cur.toList.take (k + 0) ++ us ++ cur.toList.drop (k + 0 + us.length)).toArray t.1 t.2 hh
 have hoth : ∀ x,x ≠ b -> (w.setRow b (cur.toList.take (k + 0) ++ us ++ cur.toList.drop (k + 0 + us.length)).toArray).heap[x]? = w.heap[x]?:=fun x hx=>setRow_keep w b x _ hx
 have hbw : b < w.heap.size:=heap_lt hh
 have hT2 : ∀ o',(∀ c,sg b o' = some c -> c.tag ∉ T) -> (cur.toList.take (k + 0) ++ us ++ cur.toList.drop (k + 0 + us.length)).toArray[o']? = cur[o']?:=fun o' hno=>by
  rw [hget]
  split
  ·rfl
  ·split
   ·rename_i n1 n2
    obtain ⟨c,hc⟩ : ∃ c,L[o' - k]? = some c:=⟨_,List.getElem?_eq_getElem (by omega)⟩
    have h1:=hs _ c hc
    rw [show k + (o' - k) = o' by omega] at h1
    exact absurd (hT c (List.mem_of_getElem? hc)) (hno c h1)
   ·rfl
 have hsz' : (cur.toList.take (k + 0) ++ us ++ cur.toList.drop (k + 0 + us.length)).toArray.size = cur.size:=by simp;omega
 refine ⟨hm.kn,eff.zone,Frm.row hm.fr hh hsz' hT2 hW,fun m hmm=>hm.mlt m (dropC_ok hmm).1, ?_,hm.alt, ?_,hm.young,hm.fresh,fun f hf=>hm.glt f (keepG_ok hf).1,gok_row hm hh hsz' hT2 hO⟩
 ·intro m hmm
  obtain ⟨h1,h2⟩:=dropC_ok hmm
  obtain ⟨m0,b',t',cur',v,g1,g2,g3,g4,g5⟩:=hm.memo m h1
  by_cases e : b' = b
  ·subst e
   obtain ⟨rfl,rfl⟩:=cells_inj hh g2
   refine ⟨m0,b',t,_,v,g1,hrow, ?_,g4,g5⟩
   rw [hget]
   split
   ·exact g3
   ·split
    ·rename_i n1 n2
     exfalso
     obtain ⟨c,hc⟩ : ∃ c,L[(ρ.a m.a).2 + (m.o.den ρ.i).toNat - k]? = some c:=⟨_,List.getElem?_eq_getElem (by omega)⟩
     have h3:=hs _ c hc
     rw [show k + ((ρ.a m.a).2 + (m.o.den ρ.i).toNat - k) = (ρ.a m.a).2 + (m.o.den ρ.i).toNat by omega,g4] at h3
     cases h3
     exact h2 (hT _ (List.mem_of_getElem? hc))
    ·exact g3
  ·exact ⟨m0,b',t',cur',v,g1,(hoth b' e).trans g2,g3,g4,g5⟩
 ·intro p hp
  simpa [World.setRow] using hm.asz p hp
theorem MOk.drops {E : Ent} {sg : Sig} {κ : Kn} {ρ : Vl} {d : Ds} {w : World} (hm : MOk E sg κ ρ d w) (T T1 T2 : List Nat) : MOk E sg κ ρ ⟨dropC T d.memo,d.adr,keepG T1 T2 d.G⟩ w:=
 { hm with mlt:=fun m hmm=>hm.mlt m (dropC_ok hmm).1,memo:=fun m hmm=>hm.memo m (dropC_ok hmm).1,glt:=fun f hf=>hm.glt f (keepG_ok hf).1,gok:=fun f hf=>hm.gok f (keepG_ok hf).1 }
theorem MOk.adr1 {E : Ent} {sg : Sig} {κ : Kn} {ρ : Vl} {d : Ds} {w : World} (h : MOk E sg κ ρ d w) {a q : Nat} (ha : a < κ.n) (hs : (ρ.a a).1 < (w.heap.size : Int)) (hq : q <= 1) (hy : 1 <= q -> 0 <= (ρ.a a).1 -> E.yg (ρ.a a).1) (hn : ∀ p ∈ d.adr,p.1 < a) : MOk E sg κ ρ { d with adr:=(a,q) :: d.adr } w:=
 { h with
  alt:=fun p hp=>by
   rcases List.mem_cons.1 hp with rfl | hp
   ·exact ha
   ·exact h.alt p hp
  asz:=fun p hp=>by
   rcases List.mem_cons.1 hp with rfl | hp
   ·exact hs
   ·exact h.asz p hp
  young:=fun p hp h1=>by
   rcases List.mem_cons.1 hp with rfl | hp
   ·exact hy h1
   ·exact h.young p hp h1
  fresh:=fun p hp h2 h0 x hx hlt=>by
   rcases List.mem_cons.1 hp with rfl | hp
   ·simp only [] at h2;omega
   ·rcases List.mem_cons.1 hx with rfl | hx
    ·have:=hn p hp;simp only [] at hlt;omega
    ·exact h.fresh p hp h2 h0 x hx hlt }
theorem MOk.lower {E : Ent} {sg : Sig} {κ : Kn} {ρ : Vl} {l : List Cell} {ad : List (Nat × Nat)} {G : List Fct} {a q q' : Nat} {w : World} (h : MOk E sg κ ρ ⟨l,(a,q) :: ad,G⟩ w) (hq : q' <= q) : MOk E sg κ ρ ⟨l,(a,q') :: ad,G⟩ w:=
 { h with
  alt:=fun p hp=>by
   rcases List.mem_cons.1 hp with rfl | hp
   ·exact h.alt (a,q) (by simp)
   ·exact h.alt p (by simp [hp])
  asz:=fun p hp=>by
   rcases List.mem_cons.1 hp with rfl | hp
   ·exact h.asz (a,q) (by simp)
   ·exact h.asz p (by simp [hp])
  young:=fun p hp h1=>by
   rcases List.mem_cons.1 hp with rfl | hp
   ·exact h.young (a,q) (by simp) (Nat.le_trans h1 hq)
   ·exact h.young p (by simp [hp]) h1
  fresh:=fun p hp h2 h0 x hx hlt=>by
   have key : ∀ p0,p0.1 = p.1 -> p0 ∈ ((a,q) :: ad) -> 2 <= p0.2 -> (ρ.a x.1).1 ≠ (ρ.a p.1).1:=fun p0 e hp0 h20=>by
    have key2 : ∀ x0,x0.1 = x.1 -> x0 ∈ ((a,q) :: ad) -> (ρ.a x.1).1 ≠ (ρ.a p.1).1:=fun x0 e2 hx0=>by
     have:=h.fresh p0 hp0 h20 (by rw [e];exact h0) x0 hx0 (by rw [e,e2];exact hlt)
     rw [e,e2] at this
     exact this
    rcases List.mem_cons.1 hx with rfl | hx
    ·exact key2 (a,q) rfl (by simp)
    ·exact key2 x rfl (by simp [hx])
   rcases List.mem_cons.1 hp with rfl | hp
   ·exact key (a,q) rfl (by simp) (Nat.le_trans h2 hq)
   ·exact key p rfl (by simp [hp]) h2 }
end
end Vx
namespace Vx
noncomputable section
open Go Zx
theorem MOk.adrD {E : Ent} {sg : Sig} {κ : Kn} {ρ : Vl} {d : Ds} {w : World} (h : MOk E sg κ ρ d w) {a q : Nat} (ha : a < κ.n) (hs : (ρ.a a).1 < 0) : MOk E sg κ ρ { d with adr:=(a,q) :: d.adr } w:=
 { h with
  alt:=fun p hp=>by
   rcases List.mem_cons.1 hp with rfl | hp
   ·exact ha
   ·exact h.alt p hp
  asz:=fun p hp=>by
   rcases List.mem_cons.1 hp with rfl | hp
   ·simp only [];omega
   ·exact h.asz p hp
  young:=fun p hp h1 h0=>by
   rcases List.mem_cons.1 hp with rfl | hp
   ·simp only [] at h0;omega
   ·exact h.young p hp h1 h0
  fresh:=fun p hp h2 h0 x hx hlt=>by
   rcases List.mem_cons.1 hp with rfl | hp
   ·simp only [] at h0;omega
   ·rcases List.mem_cons.1 hx with rfl | hx
    ·simp only [];omega
    ·exact h.fresh p hp h2 h0 x hx hlt }
def Lies (sg : Sig) (ρ : Vl) (a : Nat) (o : Lin) (E : List CS) (ad : Option Addr) (C : Nat) : Prop:=
 0 < C -> ∃ b : Nat,(ρ.a a).1 = (b : Int) /\ ad = some ⟨b,(ρ.a a).2 + (o.den ρ.i).toNat,none⟩ /\ ∀ i,i < C -> Sits sg b ((ρ.a a).2 + (o.den ρ.i).toNat + i * E.length) E
def headT (E : List CS) (x : DV) : Option (Option (Nat × Lin) × Lin):=
 match x with
 | .s (.c (.zs a o F n _))=>if eqCS F E then some (some (a,o),n) else none
 | .s (.c .nos)=>some (none,L0)
 | _=>none
def srcT (P : Program) (tx : TypeId) (E : List CS) (y : DV) : Option Lin:=
 match P.underlying tx with
 | some (.slice _)=>match headT E y with
  | some (_,m)=>some m
  | none=>none
 | some .string=>match y with
  | .s (.c (.strL s))=>if isU8 E then some (Lin.num s.size) else none
  | _=>none
 | _=>none
theorem headT_ok {sg : Sig} {κ : Kn} {ρ : Vl} {E : List CS} {x : DV} {h : Option (Nat × Lin)} {n : Lin} {u : Value} (hh : headT E x = some (h,n)) (hl : x.lt κ.n) (hx : (x.den ρ).ok (mu sg) u) :
  n.lt κ.n /\ ∃ ad C,u = .slice ad (n.den ρ.i).toNat C /\ (n.den ρ.i).toNat <= C /\ C <= maxLen /\ (∀ a o,h = some (a,o) -> a < κ.n /\ o.lt κ.n /\ Lies sg ρ a o E ad C) /\ (h = none -> C = 0) /\ SitsN sg ad C E:=by
 unfold headT at hh
 split at hh
 ·rename_i a o F n' c
  split at hh
  ·rename_i he
   cases hh
   obtain ⟨ad,rfl,h1,h2,h3⟩:=zs_den_ok hx
   rw [eqCS_eq he] at h3
   refine ⟨hl.2.2.1,ad,_,rfl,h1,h2,fun a' o' e=>?_,(fun e=>by cases e),fun hc=>?_⟩
   ·cases e;exact ⟨hl.1,hl.2.1,h3⟩
   ·obtain ⟨b,_,h4,h5⟩:=h3 hc
    exact ⟨b,_,h4,h5⟩
  ·cases hh
 ·cases hh
  obtain ⟨ad,rfl⟩:=hx
  exact ⟨Lin.num_lt _ _,ad,0,by simp [L0],by simp [L0],Nat.zero_le _,(fun a o e=>by cases e),(fun _=>rfl),fun hc=>absurd hc (by omega)⟩
 ·cases hh
theorem srcT_ok {sg : Sig} {κ : Kn} {ρ : Vl} {P : Program} {w : World} {E : List CS} {y : DV} {m : Lin} {v : Value} {tx : TypeId} {e : Nat} (he : E.length = e) (hz : ZoneOk sg w) (h : srcT P tx E y = some m) (hl : y.lt κ.n) (hy : (y.den ρ).ok (mu sg) v) :
  m.lt κ.n /\ ∃ news,Src P e tx v (m.den ρ.i).toNat news w /\ RowC sg E (m.den ρ.i).toNat news ∧
   ∀ a o F m' c',y = .s (.c (.zs a o F m' c')) -> m' = m /\ (0 < (m.den ρ.i).toNat -> ∃ b : Nat,(ρ.a a).1 = (b : Int) /\ ∀ (j : Nat) (z : Value),news[j]? = some z -> w.cell? ⟨b,(ρ.a a).2 + (o.den ρ.i).toNat + j,none⟩ = some z):=by
 subst he
 unfold srcT at h
 split at h
 ·rename_i el' hu
  split at h
  ·rename_i hd m' hh
   cases h
   obtain ⟨hlt,a,c,rfl,h1,h2,hsome,_,h3⟩:=headT_ok hh hl hy
   refine ⟨hlt, ?_⟩
   have hyz : ∀ a o F m' c',y = .s (.c (.zs a o F m' c')) -> m' = m /\ hd = some (a,o):=fun a o F m' c' e=>by
    subst e
    simp only [headT] at hh
    split at hh
    ·cases hh;exact ⟨rfl,rfl⟩
    ·cases hh
   generalize (m.den ρ.i).toNat = M at h1 ⊢
   rcases Nat.eq_zero_or_pos M with rfl | hpos
   ·refine ⟨[], ?_,RowC.nil _ _,fun a o F m' c' e=>⟨(hyz a o F m' c' e).1,fun h0=>absurd h0 (by omega)⟩⟩
    cases a with
    | none=>exact Src.ofNil w hu c
    | some a=>exact Src.ofSlice w hu a 0 c [] (by simp) (fun j u hj=>by simp at hj) (fun u hu=>by cases hu)
   ·obtain ⟨b,o,rfl,hs⟩:=h3 (by omega)
    obtain ⟨vs,g1,g2⟩:=zrow_read hz (n:=M) (b:=b) (o:=o) fun i hi=>hs i (by omega)
    refine ⟨vs,Src.ofSlice w hu ⟨b,o,none⟩ M c vs g1.1 (fun j u hj=>by rw [Addr.add_lit'];exact g2 j u hj) g1.oneCell,g1,fun a' o' F m' c' e=>?_⟩
    obtain ⟨e1,e2⟩:=hyz a' o' F m' c' e
    refine ⟨e1,fun _=>?_⟩
    obtain ⟨_,_,hlies⟩:=hsome a' o' e2
    obtain ⟨b',hb',had,_⟩:=hlies (by omega)
    simp only [Option.some.injEq,Addr.mk.injEq] at had
    obtain ⟨rfl,rfl,_⟩:=had
    exact ⟨_,hb',g2⟩
  ·cases h
 ·rename_i hu
  split at h
  ·rename_i s
   split at h
   ·rename_i hE
    cases h
    refine ⟨Lin.num_lt _ _, ?_⟩
    have:=srcZ_ok (P:=P) (tx:=tx) (w:=w) (μ:=mu sg) (E:=E) (y:=one (.str s)) (m:=s.size) (v:=v) rfl hz (by simp [srcZ,hu,one,hE]) hy
    obtain ⟨news,q1,q2⟩:=this
    exact ⟨news,by simpa using q1,by simpa [mu] using q2,fun a o F m' c' e=>by cases e⟩
   ·cases h
  ·cases h
 ·cases h
def Src2 (P : Program) (inf : TypeInfo) (tx : TypeId) (v : Value) (m : Nat) (news : List Value) (w : World) : Prop:=
 Src P inf.size tx v m news w \/ ∃ kq kn z,P.underlying tx = some (.int kn) /\ v = .int kq (m : Int) /\ inf.zero = some z /\ news = (Builtin.zeroCells z.cells m).toList
def srcT2 (P : Program) (tx : TypeId) (E : List CS) (y : DV) : Option Lin:=match P.underlying tx with
 | some (.int _)=>match y.int? with
  | some (_,e,_)=>some e
  | none=>none
 | _=>srcT P tx E y
theorem srcT2_ok {sg : Sig} {κ : Kn} {ρ : Vl} {P : Program} {w : World} {E : List CS} {y : DV} {m : Lin} {v z : Value} {tx : TypeId} {inf : TypeInfo} (he : E.length = inf.size) (hzz : inf.zero = some z) (hzero : AllC sg E z.cells.toList) (hz : ZoneOk sg w) (h : srcT2 P tx E y = some m) (hl : y.lt κ.n) (hy : (y.den ρ).ok (mu sg) v) (m0 : 0 <= m.den ρ.i) :
  m.lt κ.n /\ ∃ news,Src2 P inf tx v (m.den ρ.i).toNat news w /\ RowC sg E (m.den ρ.i).toNat news ∧
   ∀ a o F m' c',y = .s (.c (.zs a o F m' c')) -> m' = m /\ (0 < (m.den ρ.i).toNat -> ∃ b : Nat,(ρ.a a).1 = (b : Int) /\ ∀ (j : Nat) (z : Value),news[j]? = some z -> w.cell? ⟨b,(ρ.a a).2 + (o.den ρ.i).toNat + j,none⟩ = some z):=by
 unfold srcT2 at h
 split at h
 ·rename_i kn hu
  split at h
  ·rename_i k e c hye
   cases h
   obtain rfl:=SV.int_ok (DV.int?_den hye ρ) hy
   refine ⟨DV.int?_lt hye hl,_,.inr ⟨k,kn,z,hu,by rw [Int.toNat_of_nonneg m0],hzz,rfl⟩, ?_,fun a o F m' c' e=>?_⟩
   ·have:=made_row hzero (m.den ρ.i).toNat
    have e : (Builtin.zeroCells z.cells (m.den ρ.i).toNat).toList = ((Array.range ((m.den ρ.i).toNat * z.cells.size)).map fun i=>z.cells[i % z.cells.size]!).toList:=by simp [Builtin.zeroCells]
    simpa [Builtin.zeroCells] using this
   ·subst e;cases hye
  ·cases h
 ·obtain ⟨h1,news,h2,h3,h4⟩:=srcT_ok (e:=inf.size) he hz h hl hy
  exact ⟨h1,news,.inl h2,h3,h4⟩
theorem run_app02 {P : Program} {w : World} {t tx ty el : TypeId} {inf : TypeInfo} {a : Option Addr} {n c : Nat} {v : Value} (hu : P.underlying t = some (.slice el)) (hi : P.info? el = some inf) (hs : Src2 P inf tx v 0 [] w) (hnc : n <= c) :
  (Builtin.append_ #[t,tx] ty #[.slice a n c,v]).run P w = .ok (.slice a n c) w:=by
 rcases hs with hs | ⟨kq,kn,z,hk,rfl,hz,hn⟩
 ·exact run_app0 hu hi hs hnc
 ·have hw : IntKind.i64.wrap ((0 : Nat) : Int) = 0:=by rw [IntKind.wrap_i64];omega
  have hw' : IntKind.i64.wrap (0 : Int) = 0:=by rw [IntKind.wrap_i64];omega
  cases a <;> simp [Builtin.append_,run_underlying hu,run_underlying hk,Go.sizeOf,typeInfo,hi,hnc,asInt,asIntOf,hw',storeCells]
def findQ : List Cell -> Nat -> Lin -> Option Cell
 | [],_,_=>none
 | m :: ms,a,o=>match Nat.beq m.a a && m.o.eqb o with
  | true=>some m
  | false=>findQ ms a o
theorem findQ_ok : ∀ {ms : List Cell} {a : Nat} {o : Lin} {m : Cell},findQ ms a o = some m -> m ∈ ms /\ m.a = a /\ m.o = o
 | [],_,_,_,h=>by simp [findQ] at h
 | m :: ms,a,o,x,h=>by
  simp only [findQ] at h
  split at h
  ·rename_i e
   cases h
   rw [Bool.and_eq_true] at e
   exact ⟨by simp,Nat.eq_of_beq_eq_true e.1,Lin.eqb_eq e.2⟩
  ·obtain ⟨h1,h2⟩:=findQ_ok h
   exact ⟨by simp [h1],h2⟩
def appMs (ms : List Cell) (a : Nat) (o : Lin) (nw : Nat) (base : Lin) : List CS -> Nat -> List Cell
 | [],_=>[]
 | c :: E,j=>match findQ ms a (o.addc j) with
  | some m=>⟨nw,base.addc j,c,m.v⟩ :: appMs ms a o nw base E (j + 1)
  | none=>appMs ms a o nw base E (j + 1)
def lit0 (o : Lin) : Bool:=match o.t with
 | []=>decide (0 <= o.c)
 | _ :: _=>false
theorem lit0_ok {o : Lin} (h : lit0 o = true) (ρ : Val) : 0 <= o.den ρ:=by
 unfold lit0 at h
 split at h
 ·rename_i ht
  have:=of_decide_eq_true h
  simpa [Lin.den,ht,Tm.den] using this
 ·cases h
def repE (E : List CS) (n : Nat) : List CS:=@Nat.rec (fun _=>List CS) [] (fun _ ih=>E ++ ih) n
theorem repE_get {E : List CS} : ∀ {n k : Nat} {c : CS},(repE E n)[k]? = some c -> ∃ i j,i < n /\ E[j]? = some c /\ k = i * E.length + j
 | 0,k,c,h=>by
  have h : ([] : List CS)[k]? = some c:=h
  simp at h
 | n + 1,k,c,h=>by
  have h : (E ++ repE E n)[k]? = some c:=h
  rcases Nat.lt_or_ge k E.length with hk | hk
  ·rw [List.getElem?_append_left hk] at h
   exact ⟨0,k,by omega,h,by omega⟩
  ·rw [List.getElem?_append_right hk] at h
   obtain ⟨i,j,h1,h2,h3⟩:=repE_get h
   exact ⟨i + 1,j,by omega,h2,by rw [Nat.add_mul];omega⟩
def smallL (κ : Kn) (m : Lin) (o : Lin) : Bool:=match m.t with
 | []=>iLe 1 m.c && (iLe m.c 40 && (lit0 o || κ.has o))
 | _ :: _=>false
theorem smallL_ok {κ : Kn} {ρ : Vl} {m o : Lin} (hκ : κ.Ok ρ) (h : smallL κ m o = true) : m.den ρ.i = m.c /\ 1 <= m.c /\ 0 <= o.den ρ.i:=by
 unfold smallL at h
 split at h
 ·rename_i ht
  simp only [Bool.and_eq_true,Bool.or_eq_true] at h
  exact ⟨by simp [Lin.den,ht,Tm.den],iLe_ok h.1,h.2.2.elim (fun h=>lit0_ok h ρ.i) fun h=>Kn.has_ok hκ h⟩
 ·cases h
def appM (κ : Kn) (d : Ds) (nw : Nat) (n : Lin) (E : List CS) (y : DV) : List Cell:=
 match y with
 | .s (.c (.zs a o _ m _))=>match smallL κ m o with
  | true=>appMs d.memo a o nw (Lin.mulc (E.length : Int) n) (repE E m.c.toNat) 0
  | false=>[]
 | _=>[]
def appO (κ : Kn) (d : Ds) (nw : Nat) (E : List CS) (x : DV) : List Cell:=
 match x with
 | .s (.c (.zs a o _ n _))=>match smallL κ n o with
  | true=>appMs d.memo a o nw L0 (repE E n.c.toNat) 0
  | false=>[]
 | _=>[]
theorem appMs_ok {ms : List Cell} {a nw : Nat} {o base : Lin} : ∀ {E : List CS} {j0 : Nat} {q : Cell},q ∈ appMs ms a o nw base E j0 -> ∃ (i : Nat) (c : CS) (m : Cell),E[i]? = some c /\ m ∈ ms /\ m.a = a /\ m.o = o.addc ((j0 + i : Nat) : Int) /\ q = ⟨nw,base.addc ((j0 + i : Nat) : Int),c,m.v⟩
 | [],_,_,h=>by cases h
 | c :: E,j0,q,h=>by
  unfold appMs at h
  have go : q ∈ appMs ms a o nw base E (j0 + 1) -> ∃ (i : Nat) (c' : CS) (m : Cell),(c :: E)[i]? = some c' /\ m ∈ ms /\ m.a = a /\ m.o = o.addc ((j0 + i : Nat) : Int) /\ q = ⟨nw,base.addc ((j0 + i : Nat) : Int),c',m.v⟩:=fun h=>by
   obtain ⟨i,c',m,h1,h2,h3,h4,h5⟩:=appMs_ok h
   exact ⟨i + 1,c',m,by simpa using h1,h2,h3,by rw [h4];congr 2;omega,by rw [h5];congr 3;omega⟩
  split at h
  ·rename_i m hm
   obtain ⟨g1,g2,g3⟩:=findQ_ok hm
   rcases List.mem_cons.1 h with rfl | h
   ·exact ⟨0,c,m,by simp,g1,g2,by simpa using g3,by simp⟩
   ·exact go h
  ·exact go h
theorem MOk.memos {E : Ent} {sg : Sig} {κ : Kn} {ρ : Vl} {d : Ds} {w : World} (h : MOk E sg κ ρ d w) {cs : List Cell} (hc : ∀ q ∈ cs,q.lt κ.n /\ q.ok sg ρ w) : MOk E sg κ ρ ⟨cs ++ d.memo,d.adr,d.G⟩ w:=
 { h with
  mlt:=fun m hm=>by
   rcases List.mem_append.1 hm with hm | hm
   ·exact (hc m hm).1
   ·exact h.mlt m hm
  memo:=fun m hm=>by
   rcases List.mem_append.1 hm with hm | hm
   ·exact (hc m hm).2
   ·exact h.memo m hm }
theorem told_at {En : Ent} {sg : Sig} {κ : Kn} {ρ : Vl} {d : Ds} {w : World} {a k b : Nat} {o : Lin} {m : Cell} (hm : MOk En sg κ ρ d w) (h1 : m ∈ d.memo) (h2 : m.a = a) (h3 : m.o = o.addc (k : Int)) (ho : 0 <= o.den ρ.i) (hb : (ρ.a a).1 = (b : Int)) :
  ∃ z,w.cell? ⟨b,(ρ.a a).2 + (o.den ρ.i).toNat + k,none⟩ = some z /\ m.v.lt κ.n /\ (m.v.den ρ).ok (mu sg) z:=by
 obtain ⟨k1,b',t,cur,z,k2,k3,k4,k5,k6⟩:=hm.memo m h1
 rw [h2] at k2 k4 k5
 rw [h3,Lin.addc_den] at k4 k5
 have : b' = b:=by omega
 subst this
 refine ⟨z, ?_,(hm.mlt m h1).v,k6⟩
 have e : (o.den ρ.i + (k : Int)).toNat = (o.den ρ.i).toNat + k:=by omega
 rw [e] at k4
 simp only [World.cell?,k3]
 simpa [Nat.add_assoc] using k4
theorem appM_ok {En : Ent} {sg : Sig} {κ : Kn} {ρ : Vl} {d : Ds} {w : World} {n m : Lin} {E : List CS} {y : DV} {news : List Value} {nw : Nat} (hm : MOk En sg κ ρ d w)
  (hnews : ∀ a o F m' c',y = .s (.c (.zs a o F m' c')) -> m' = m /\ (0 < (m.den ρ.i).toNat -> ∃ b : Nat,(ρ.a a).1 = (b : Int) /\ ∀ (j : Nat) (z : Value),news[j]? = some z -> w.cell? ⟨b,(ρ.a a).2 + (o.den ρ.i).toNat + j,none⟩ = some z))
  (hlen : news.length = (m.den ρ.i).toNat * E.length) {q : Cell} (hq : q ∈ appM κ d nw n E y) :
  ∃ (i j : Nat) (c : CS) (z : Value) (x : DC),i < (m.den ρ.i).toNat /\ E[j]? = some c /\ q = ⟨nw,(Lin.mulc (E.length : Int) n).addc ((i * E.length + j : Nat) : Int),c,x⟩ /\ x.lt κ.n /\ news[i * E.length + j]? = some z /\ (x.den ρ).ok (mu sg) z:=by
 unfold appM at hq
 split at hq
 ·rename_i a o F m' c'
  split at hq
  ·rename_i hc
   obtain ⟨rfl,hb⟩:=hnews _ _ _ _ _ rfl
   obtain ⟨s1,s2,s3⟩:=smallL_ok hm.kn hc
   obtain ⟨b,hb1,hb2⟩:=hb (by omega)
   obtain ⟨k,c,mm,g1,g2,g3,g4,g5⟩:=appMs_ok hq
   rw [Nat.zero_add] at g4 g5
   obtain ⟨i,j,e1,e2,rfl⟩:=repE_get g1
   have hi : i < (m'.den ρ.i).toNat:=by rw [s1];exact e1
   have hj : j < E.length:=(List.getElem?_eq_some_iff.1 e2).1
   have hin : i * E.length + j < news.length:=by rw [hlen];exact row_in hi hj
   obtain ⟨z,z1,z2,z3⟩:=told_at hm g2 g3 g4 s3 hb1
   have:=hb2 _ news[i * E.length + j] (List.getElem?_eq_getElem hin)
   rw [z1] at this
   cases this
   exact ⟨i,j,c,_,mm.v,hi,e2,g5,z2,List.getElem?_eq_getElem hin,z3⟩
  ·cases hq
 ·cases hq
theorem appO_ok {En : Ent} {sg : Sig} {κ : Kn} {ρ : Vl} {d : Ds} {w : World} {n : Lin} {E : List CS} {x : DV} {hd : Option (Nat × Lin)} {nw : Nat} (hm : MOk En sg κ ρ d w) (hh : headT E x = some (hd,n)) {C : Nat} (hNC : (n.den ρ.i).toNat <= C)
  (hl : ∀ a o,hd = some (a,o) -> 0 < C -> ∃ b : Nat,(ρ.a a).1 = (b : Int)) {q : Cell} (hq : q ∈ appO κ d nw E x) :
  ∃ (i j : Nat) (c : CS) (z : Value) (v : DC) (a : Nat) (o : Lin) (b : Nat),i < (n.den ρ.i).toNat /\ E[j]? = some c /\ q = ⟨nw,L0.addc ((i * E.length + j : Nat) : Int),c,v⟩ /\ v.lt κ.n /\ hd = some (a,o) /\ (ρ.a a).1 = (b : Int) /\ w.cell? ⟨b,(ρ.a a).2 + (o.den ρ.i).toNat + (i * E.length + j),none⟩ = some z /\ (v.den ρ).ok (mu sg) z:=by
 unfold appO at hq
 split at hq
 ·rename_i a o F n' c'
  split at hq
  ·rename_i hc
   unfold headT at hh
   split at hh
   ·rename_i a1 o1 F1 n1 c1 he
    cases he
    split at hh
    ·cases hh
     obtain ⟨s1,s2,s3⟩:=smallL_ok hm.kn hc
     obtain ⟨b,hb⟩:=hl _ _ rfl (by omega)
     obtain ⟨k,c,mm,g1,g2,g3,g4,g5⟩:=appMs_ok hq
     rw [Nat.zero_add] at g4 g5
     obtain ⟨i,j,e1,e2,rfl⟩:=repE_get g1
     obtain ⟨z,z1,z2,z3⟩:=told_at hm g2 g3 g4 s3 hb
     exact ⟨i,j,c,z,mm.v,a,o,b,by rw [s1];exact e1,e2,g5,z2,rfl,hb,z1,z3⟩
    ·cases hh
   ·rename_i he;cases he
   ·rename_i he _;exact absurd rfl (he _ _ _ _ _)
  ·cases hq
 ·cases hq
def appE (W : Wt) (inf : TypeInfo) (E : List CS) (h : Option (Nat × Lin)) (n m : Lin) (x y : DV) (κ : Kn) (d : Ds) (kk : Kn -> Ds -> DV -> Bool) : Bool:=
 κ.has n && (κ.has m && (κ.has ((Lin.num 140737488355328).sub (Lin.mulc (inf.bytes : Int) (n.add m))) && ((match h with
    | none=>true
    | some (a,_)=>mayW W d a (E.map CS.tag)) &&
    kk (κ.newC [(Lin.var κ.n).sub (n.add m),(Lin.num maxLen).sub (.var κ.n)]) ⟨(appM κ d κ.n n E y ++ appO κ d κ.n E x) ++ (match h with
     | none=>d.memo
     | some _=>dropC (E.map CS.tag) d.memo),(κ.n,match h with
     | none=>2
     | some (a,_)=>match youngD d a with
      | true=>1
      | false=>0) :: d.adr,match h with
     | none=>d.G
     | some (a,_)=>keepG (E.map CS.tag) (oldT W d a (E.map CS.tag)) d.G⟩ (d1 (.zs κ.n L0 E (n.add m) (.var κ.n))))))
def appT (P : Program) (W : Wt) (t tx : TypeId) (x y : DV) (κ : Kn) (d : Ds) (kk : Kn -> Ds -> DV -> Bool) : Bool:=
 match zelem P t with
 | some (_,inf,E)=>match headT E x,srcT2 P tx E y with
  | some (h,n),some m=>appE W inf E h n m x y κ d kk
  | _,_=>false
 | none=>false
theorem run_app_room {P : Program} {sg : Sig} {w : World} {t tx ty el : TypeId} {inf : TypeInfo} {E : List CS} {g o n m c : Nat} {v : Value} {news : List Value} (hz : ZoneOk sg w) (hu : P.underlying t = some (.slice el)) (hi : P.info? el = some inf)
  (hEl : E.length = inf.size) (hE0 : 0 < inf.size) (hsi : ∀ i,i < c -> Sits sg g (o + i * E.length) E) (hs : Src2 P inf tx v m news w) (hrow : RowC sg E m news) (hpos : 0 < m) (hroom : n + m <= c) (hby : (n + m) * inf.bytes <= 140737488355328) (hmax : n + m <= maxLen) :
  ∃ (cur : Array Value) (tc : TF),w.heap[g]? = some (.cells cur tc.1 tc.2) /\ o + n * inf.size + news.length <= cur.size /\ Sits sg g (o + n * inf.size) (List.replicate m E).flatten /\ AllC sg (List.replicate m E).flatten news /\ news ≠ [] ∧
   (Builtin.append_ #[t,tx] ty #[.slice (some ⟨g,o,none⟩) n c,v]).run P w = .ok (.slice (some ⟨g,o,none⟩) (n + m) c) (w.setRow g (cur.toList.take (o + n * inf.size + 0) ++ news ++ cur.toList.drop (o + n * inf.size + 0 + news.length)).toArray):=by
 have hL : Sits sg g (o + n * inf.size) (List.replicate m E).flatten:=Sits.rep fun i hi'=>by
  have:=hsi (n + i) (by omega)
  rw [Nat.add_mul,hEl] at this
  rw [hEl,Nat.add_assoc];exact this
 have hLl : (List.replicate m E).flatten.length = m * inf.size:=by simp [hEl]
 have hnl : news.length = m * inf.size:=by rw [hrow.1,hEl]
 have hpos2 : 0 < m * inf.size:=Nat.mul_pos hpos hE0
 obtain ⟨cur,tc,hb,hsz,hnf⟩:=sits_room hz hL (n:=news.length) (by rw [hLl,hnl];exact Nat.le_refl _) (by omega)
 have hst:=run_storeCells_nf P g (o + n * inf.size) tc news 0 cur w hb hnf (by omega) hrow.oneCell
 refine ⟨cur,tc,hb,hsz,hL,hrow.flat,fun e=>by rw [e] at hnl;simp at hnl;omega, ?_⟩
 rcases hs with hs | ⟨kq,kn,z,hk,rfl,hzz,hnn⟩
 ·have hc1:=hs.cells
  rcases hs.kind with ⟨e',hk'⟩ | hk' <;> simp [Builtin.append_,run_underlying hu,run_underlying hk',Go.sizeOf,typeInfo,hi,hs.len,hroom,hc1,Addr.add_lit,hst]
 ·subst hnn
  have hw : IntKind.i64.wrap (m : Int) = m:=by rw [IntKind.wrap_i64];simp only [maxLen] at hmax;omega
  have hb2 : m * inf.bytes <= (n + m) * inf.bytes:=Nat.mul_le_mul_right _ (by omega)
  have h48i : ¬ (281474976710656 < (m : Int) * (inf.bytes : Int)):=by
   rw [← Int.natCast_mul]
   omega
  have hneg : ¬ ((m : Int) < 0):=by omega
  have hm0 : m ≠ 0:=by omega
  have hns : ¬ (m * inf.size = 0):=Nat.mul_ne_zero hm0 (by omega)
  simp only [Array.length_toList] at hst
  simp [Builtin.append_,run_underlying hu,run_underlying hk,Go.sizeOf,typeInfo,zeroValue,hi,hzz,asInt,asIntOf,hw,hneg,h48i,hm0,hns,hroom,Addr.add_lit,hst]
theorem run_app_grow {P : Program} {sg : Sig} {w : World} {t tx ty el : TypeId} {inf : TypeInfo} {E : List CS} {a : Option Addr} {n m c : Nat} {v z : Value} {news : List Value} (hzn : ZoneOk sg w) (hu : P.underlying t = some (.slice el)) (hi : P.info? el = some inf)
  (hz : inf.zero = some z) (hzero : ∀ sg,AllC sg E z.cells.toList) (hEl : E.length = inf.size) (hnc : n <= c) (hsit : SitsN sg a c E) (hs : Src2 P inf tx v m news w) (hE0 : 0 < inf.size) (hrow : RowC sg E m news) (hby : (n + m) * inf.bytes <= 140737488355328) (hmax : n + m <= maxLen) (hg : c < n + m) :
  ∃ g arr w',n + m <= g /\ g <= maxLen /\ (Builtin.append_ #[t,tx] ty #[.slice a n c,v]).run P w = .ok (.slice (some ⟨w.heap.size,0,none⟩) (n + m) g) w' /\ w'.heap = w.heap.push (.cells arr el) /\ w'.os = w.os /\ w'.tape = w.tape /\ w'.output = w.output /\ (∀ i j c,i < g -> E[j]? = some c -> ∃ u,arr[i * E.length + j]? = some u /\ c.ok sg u) ∧
   (∀ (j : Nat) (z : Value),news[j]? = some z -> arr[n * E.length + j]? = some z) /\ ∀ (j g o : Nat) (z : Value),j < n * E.length -> a = some ⟨g,o,none⟩ -> w.cell? ⟨g,o + j,none⟩ = some z -> arr[j]? = some z:=by
 obtain ⟨olds,holds,hold,hcl⟩ : ∃ olds,RowC sg E n olds /\ (Builtin.firstCells inf.size n (.slice a n c)).run P w.drew = .ok olds.toArray w.drew /\ ∀ (j g o : Nat) (z : Value),j < n * E.length -> a = some ⟨g,o,none⟩ -> w.cell? ⟨g,o + j,none⟩ = some z -> olds[j]? = some z:=by
  rcases Nat.eq_zero_or_pos n with rfl | hpos
  ·refine ⟨[],RowC.nil _ _, ?_,fun j g o z hj=>by simp at hj⟩
   cases a with
   | none=>exact run_firstCells_none w.drew inf.size 0 0 c
   | some a=>exact run_firstCells_some w.drew inf.size 0 a 0 c [] (by simp) (by intro _ _ h';simp at h')
  ·obtain ⟨g,o,rfl,hsi⟩:=hsit (by omega)
   obtain ⟨vs,g1,g2⟩:=zrow_read hzn (n:=n) (b:=g) (o:=o) fun i hi=>hsi i (by omega)
   refine ⟨vs,g1,run_firstCells_some w.drew inf.size n ⟨g,o,none⟩ n c vs (by rw [g1.1,hEl]) fun j u hu=>?_,fun j g' o' z hj he hz=>?_⟩
   ·rw [Addr.add_lit']
    exact g2 j u hu
   ·cases he
    have hjl : j < vs.length:=by rw [g1.1];exact hj
    have:=g2 j vs[j] (List.getElem?_eq_getElem hjl)
    rw [hz] at this
    cases this
    exact List.getElem?_eq_getElem hjl
 have hsmall : ((n + m : Nat) : Int) <= 9223372036854775807:=by simp only [maxLen] at hmax;omega
 have hr : (Builtin.append_ #[t,tx] ty #[.slice a n c,v]).run P w = .ok (.slice (some ⟨w.heap.size,0,none⟩) (n + m) (grownCap w (n + m) c el)) (w.drew.alloc (.cells ((olds ++ news).toArray ++ Builtin.zeroCells z.cells (grownCap w (n + m) c el - (n + m))) el)):=by
  rcases hs with hs | ⟨kq,kn,z',hk,rfl,hzz,hnn⟩
  ·exact run_append_grow_src (P:=P) w t tx ty el inf z hu hi hz a n c olds hold v m news hs hg hsmall (growslice_fits hg hby)
  ·rw [hz] at hzz
   cases hzz
   subst hnn
   have hb2 : m * inf.bytes <= (n + m) * inf.bytes:=Nat.mul_le_mul_right _ (by omega)
   have:=Go.Lib.run_append_grow_zeros (P:=P) w t tx ty el inf z kq kn hu hk hi hz a n c olds hold m (by omega) hE0 hg hsmall (by omega) (growslice_fits hg hby)
   rw [this]
   congr 3
   apply Array.ext'
   simp
 have hge:=grownCap_ge w (n + m) c el
 have hle:=grownCap_le_maxLen w (n + m) c el hmax
 generalize grownCap w (n + m) c el = G at hr hge hle
 have hzr:=made_row (hzero sg) (G - (n + m))
 have hall:=(holds.append hrow).append hzr
 rw [show n + m + (G - (n + m)) = G by omega] at hall
 refine ⟨G,_,_,hge,hle,hr,rfl,rfl,rfl,rfl,fun i j c' hi' hj=>?_,fun j z' hj=>?_,fun j g o z' hj he hz'=>?_⟩
 ·obtain ⟨u,hu',hok⟩:=hall.2 i j c' hi' hj
  refine ⟨u, ?_,hok⟩
  rw [← hu',← Array.getElem?_toList]
  congr 1
  simp [Builtin.zeroCells]
 ·have hj' : j < news.length:=(List.getElem?_eq_some_iff.1 hj).1
  rw [← Array.getElem?_toList]
  simp only [Array.toList_append,List.append_assoc]
  rw [List.getElem?_append_right (by rw [holds.1];omega),holds.1,Nat.add_sub_cancel_left,List.getElem?_append_left (by simpa using hj')]
  simpa using hj
 ·have h1:=hcl j g o z' hj he hz'
  have hj' : j < olds.length:=(List.getElem?_eq_some_iff.1 h1).1
  rw [← Array.getElem?_toList]
  simp only [Array.toList_append,List.append_assoc]
  rw [List.getElem?_append_left (by simpa using hj')]
  simpa using h1
end
end Vx
namespace Vx
noncomputable section
open Go Zx
theorem setb_gr {κ : Kn} {ρ : Vl} (hκ : κ.Ok ρ) {s : Lin} (hs : s.lt κ.n) {g : Nat} {bo : Int × Nat} (h1 : s.den ρ.i <= (g : Int)) (h2 : g <= maxLen) : Gr κ (κ.newC [(Lin.var κ.n).sub s,(Lin.num maxLen).sub (.var κ.n)]) ρ (ρ.setb κ.n g bo):=by
 have ag:=Vl.setb_agr ρ κ.n (g : Int) bo
 refine newC_gr2 hκ ag (fun l hl=>?_) (fun l hl=>?_)
 ·simp only [List.mem_cons,List.not_mem_nil,or_false] at hl
  rcases hl with rfl | rfl
  ·exact Lin.sub_lt (var_lt1 _) (lt1 hs)
  ·exact Lin.sub_lt (Lin.num_lt _ _) (var_lt1 _)
 ·have hv : (Lin.var κ.n).den (ρ.setb κ.n g bo).i = g:=by simp [Vl.setb]
  simp only [List.mem_cons,List.not_mem_nil,or_false] at hl
  rcases hl with rfl | rfl
  ·rw [Lin.sub_den,hv,← Lin.den_eq ag.i hs];omega
  ·rw [Lin.sub_den,hv,Lin.num_den];omega
theorem got_slice {En : Ent} {sg sg' : Sig} {κ : Kn} {ρ : Vl} {d' : Ds} {w' : World} {kk : Kn -> Ds -> DV -> Bool} {E : List CS} {s : Lin} {N g : Nat} {ad : Option Addr} {bo : Int × Nat} (hκ : κ.Ok ρ) (hs : s.lt κ.n) (hN : s.den ρ.i = (N : Int)) (h1 : N <= g) (h2 : g <= maxLen) (hg : Grows sg sg')
  (hlie : 0 < g -> ∃ b : Nat,bo.1 = (b : Int) /\ ad = some ⟨b,bo.2,none⟩ /\ ∀ i,i < g -> Sits sg' b (bo.2 + i * E.length) E)
  (hm : MOk En sg' (κ.newC [(Lin.var κ.n).sub s,(Lin.num maxLen).sub (.var κ.n)]) (ρ.setb κ.n g bo) d' w')
  (hk : kk (κ.newC [(Lin.var κ.n).sub s,(Lin.num maxLen).sub (.var κ.n)]) d' (d1 (.zs κ.n L0 E s (.var κ.n))) = true) : GotM En sg κ ρ kk (.slice ad N g) w':=by
 have gr:=setb_gr hκ hs (g:=g) (bo:=bo) (by omega) h2
 refine ⟨sg',_,d',_,_,hk,gr,⟨Nat.lt_succ_self _,Lin.num_lt _ _,lt1 hs,var_lt1 _⟩, ?_,hg,hm⟩
 have hv : (Lin.var κ.n).den (ρ.setb κ.n g bo).i = g:=by simp [Vl.setb]
 have ha : (ρ.setb κ.n g bo).a κ.n = bo:=by simp [Vl.setb]
 refine zs_mk (by rw [← Lin.den_eq gr.agr.i hs,hN];simp) (by rw [hv];simp) h1 h2 fun hpos=>?_
 obtain ⟨b,e1,e2,e3⟩:=hlie hpos
 refine ⟨b,by rw [ha];exact e1, ?_, ?_⟩
 ·rw [ha];simpa [L0] using e2
 ·rw [ha];simpa [L0] using e3
theorem appE_ok {En : Ent} {sg : Sig} {P : Program} {t tx ty el : TypeId} {inf : TypeInfo} {E : List CS} {hd : Option (Nat × Lin)} {n m : Lin} {z : Value} {x y : DV} {κ : Kn} {ρ : Vl} {d : Ds} {w : World} {kk : Kn -> Ds -> DV -> Bool} {u v : Value} (hm : MOk En sg κ ρ d w) (hl : x.lt κ.n) (hly : y.lt κ.n) (hx : (x.den ρ).ok (mu sg) u)
  (hu : P.underlying t = some (.slice el)) (hi : P.info? el = some inf) (hEl : E.length = inf.size) (hE0 : 0 < inf.size) (hb0 : 0 < inf.bytes) (hz : inf.zero = some z) (hzero : ∀ sg,AllC sg E z.cells.toList) (hh : headT E x = some (hd,n)) (m0 : 0 <= m.den ρ.i)
  (hsrc : m.lt κ.n /\ ∃ news,Src2 P inf tx v (m.den ρ.i).toNat news w /\ RowC sg E (m.den ρ.i).toNat news /\ ∀ a o F m' c',y = .s (.c (.zs a o F m' c')) -> m' = m /\ (0 < (m.den ρ.i).toNat -> ∃ b : Nat,(ρ.a a).1 = (b : Int) /\ ∀ (j : Nat) (z : Value),news[j]? = some z -> w.cell? ⟨b,(ρ.a a).2 + (o.den ρ.i).toNat + j,none⟩ = some z))
  (h : appE En.W inf E hd n m x y κ d kk = true) : ∃ z w',(Builtin.append_ #[t,tx] ty #[u,v]).run P w = .ok z w' /\ GotM En sg κ ρ kk z w':=by
 unfold appE at h
 simp only [Bool.and_eq_true] at h
 obtain ⟨c1,c2,c3,cW,h⟩:=h
 have n0:=Kn.has_ok hm.kn c1
 have hby:=Kn.has_ok hm.kn c3
 obtain ⟨nlt,ad,C,rfl,hNC,hCm,hsome,hnone,hsit⟩:=headT_ok hh hl hx
 obtain ⟨mlt,news,hs,hrow,hnews⟩:=hsrc
 have hmq:=fun (q : Cell)=>appM_ok (nw:=κ.n) (n:=n) (q:=q) hm hnews hrow.1
 have hoq:=fun (q : Cell)=>appO_ok (nw:=κ.n) (q:=q) hm hh hNC (fun a o e hC=>by
  obtain ⟨_,_,hl⟩:=hsome a o e
  obtain ⟨b,hb,_⟩:=hl hC
  exact ⟨b,hb⟩)
 simp only [Lin.sub_den,Lin.num_den,Lin.mulc_den,Lin.add_den] at hby
 have hsl : (n.add m).lt κ.n:=Lin.add_lt nlt mlt
 obtain ⟨N,hN⟩:=Int.eq_ofNat_of_zero_le n0
 obtain ⟨M,hM⟩:=Int.eq_ofNat_of_zero_le m0
 rw [hN] at hNC hby
 rw [hM] at hs hrow hby
 rw [hN]
 simp only [Int.toNat_natCast] at hNC hs hrow ⊢
 have hsN : (n.add m).den ρ.i = ((N + M : Nat) : Int):=by rw [Lin.add_den,hN,hM];omega
 have hby' : (N + M) * inf.bytes <= 140737488355328:=by
  have e : (inf.bytes : Int) * ((N : Int) + (M : Int)) = (((N + M) * inf.bytes : Nat) : Int):=by rw [Nat.mul_comm];push_cast;rfl
  rw [e] at hby
  omega
 have hmax : N + M <= maxLen:=by
  have : N + M <= (N + M) * inf.bytes:=Nat.le_mul_of_pos_right _ hb0
  simp only [maxLen]
  omega
 have hall : ∀ q ∈ appM κ d κ.n n E y ++ appO κ d κ.n E x,∃ (i j : Nat) (c : CS) (z : Value) (xv : DC) (o' : Lin),i < N + M /\ E[j]? = some c /\ q = ⟨κ.n,o',c,xv⟩ /\ o'.lt κ.n /\ o'.den ρ.i = ((i * E.length + j : Nat) : Int) /\ xv.lt κ.n /\ (xv.den ρ).ok (mu sg) z ∧
   ((N <= i /\ news[(i - N) * E.length + j]? = some z) \/ (i < N /\ ∃ (a : Nat) (o : Lin) (b : Nat),hd = some (a,o) /\ (ρ.a a).1 = (b : Int) /\ w.cell? ⟨b,(ρ.a a).2 + (o.den ρ.i).toNat + (i * E.length + j),none⟩ = some z)):=fun q hq=>by
  rcases List.mem_append.1 hq with hq | hq
  ·obtain ⟨i,j,c,z,xv,p1,p2,rfl,p4,p5,p6⟩:=hmq q hq
   rw [hM] at p1
   simp only [Int.toNat_natCast] at p1
   refine ⟨N + i,j,c,z,xv,_,by omega,p2,rfl,Lin.addc_lt (Lin.mulc_lt nlt), ?_,p4,p6,.inl ⟨by omega,by rw [Nat.add_sub_cancel_left];exact p5⟩⟩
   rw [Lin.addc_den,Lin.mulc_den,hN,Int.mul_comm,Nat.add_mul]
   push_cast;omega
  ·obtain ⟨i,j,c,z,xv,a,o,b,p1,p2,rfl,p4,p5,p6,p7,p8⟩:=hoq q hq
   rw [hN] at p1
   simp only [Int.toNat_natCast] at p1
   refine ⟨i,j,c,z,xv,_,by omega,p2,rfl,Lin.addc_lt (Lin.num_lt _ _), ?_,p4,p8,.inr ⟨p1,a,o,b,p5,p6,p7⟩⟩
   rw [Lin.addc_den,show L0.den ρ.i = 0 from by simp [L0,Lin.num_den],Int.zero_add]
 by_cases hroom : N + M <= C
 ·
  rcases Nat.eq_zero_or_pos C with hC0 | hC0
  ·
   have hM0 : M = 0:=by omega
   have hN0 : N = 0:=by omega
   subst hM0;subst hN0
   have hnil : news = []:=List.eq_nil_of_length_eq_zero (by rw [hrow.1];simp)
   subst hnil
   refine ⟨.slice ad 0 C,w,run_app02 hu hi hs hNC, ?_⟩
   have gr:=setb_gr hm.kn hsl (g:=C) (bo:=(-1,0)) (by rw [hsN];omega) hCm
   refine got_slice (bo:=(-1,0)) hm.kn hsl hsN (by omega) hCm (Grows.refl _) (fun hp=>absurd hp (by omega)) ?_ h
   have hm1:=hm.gr gr
   have ha : ((ρ.setb κ.n (C : Int) (-1,0)).a κ.n).1 < 0:=by simp [Vl.setb]
   have hv : ∀ q ∈ appM κ d κ.n n E y ++ appO κ d κ.n E x,q.lt (κ.n + 1) /\ q.ok sg (ρ.setb κ.n (C : Int) (-1,0)) w:=fun q hq=>by
    obtain ⟨i,_,_,_,_,_,p1,_⟩:=hall q hq
    omega
   cases hd with
   | none=>exact (hm1.memos hv).adrD (Nat.lt_succ_self _) ha
   | some p=>exact ((hm1.drops _ _ _).memos hv).adrD (Nat.lt_succ_self _) ha
  ·cases hd with
   | none=>have:=hnone rfl;omega
   | some p=>
    obtain ⟨a,o⟩:=p
    obtain ⟨alt,olt,hlies⟩:=hsome a o rfl
    obtain ⟨b,hb,rfl,hsi⟩:=hlies hC0
    obtain ⟨c0,hc0⟩ : ∃ c0,E[0]? = some c0:=⟨E[0]'(by omega),List.getElem?_eq_getElem (by omega)⟩
    have hbw:=hm.zone.lt (hsi 0 hC0 0 c0 hc0)
    have gr:=setb_gr hm.kn hsl (g:=C) (bo:=((b : Int),(ρ.a a).2 + (o.den ρ.i).toNat)) (by rw [hsN];omega) hCm
    have hya : youngD d a = true -> En.yg (b : Int):=fun hy=>by
     obtain ⟨q,m1,k1⟩:=cls_ok (n:=1) hy
     have:=hm.young _ m1 k1 (by simp only [];rw [hb];omega)
     simp only [] at this
     rw [hb] at this
     exact this
    obtain ⟨hmb,hmo⟩:=mayW_ok hm hb cW
    have ha : (ρ.setb κ.n (C : Int) ((b : Int),(ρ.a a).2 + (o.den ρ.i).toNat)).a κ.n = ((b : Int),(ρ.a a).2 + (o.den ρ.i).toNat):=by simp [Vl.setb]
    have fin : ∀ w',w'.heap.size = w.heap.size -> MOk En sg (κ.newC [(Lin.var κ.n).sub (n.add m),(Lin.num maxLen).sub (.var κ.n)]) (ρ.setb κ.n (C : Int) ((b : Int),(ρ.a a).2 + (o.den ρ.i).toNat)) ⟨dropC (E.map CS.tag) d.memo,d.adr,keepG (E.map CS.tag) (oldT En.W d a (E.map CS.tag)) d.G⟩ w' →
      (∀ q ∈ appM κ d κ.n n E y ++ appO κ d κ.n E x,q.lt (κ.n + 1) /\ q.ok sg (ρ.setb κ.n (C : Int) ((b : Int),(ρ.a a).2 + (o.den ρ.i).toNat)) w') -> GotM En sg κ ρ kk (.slice (some ⟨b,(ρ.a a).2 + (o.den ρ.i).toNat,none⟩) (N + M) C) w':=fun w' hsz hm' hqs=>by
     replace hm':=hm'.memos hqs
     refine got_slice (bo:=((b : Int),(ρ.a a).2 + (o.den ρ.i).toNat)) hm.kn hsl hsN hroom hCm (Grows.refl _) (fun _=>⟨b,rfl,rfl,hsi⟩) ?_ h
     simp only []
     cases hyd : youngD d a with
     | true=>exact hm'.adr1 (Nat.lt_succ_self _) (by rw [ha];simp only [];omega) (Nat.le_refl _) (fun _ _=>by rw [ha];exact hya hyd) fun p hp=>hm.alt p hp
     | false=>exact hm'.adr1 (Nat.lt_succ_self _) (by rw [ha];simp only [];omega) (Nat.zero_le _) (fun h1=>absurd (show 1 <= 0 from h1) (by omega)) fun p hp=>hm.alt p hp
    have hm1:=(hm.gr gr)
    have okq : ∀ (w' : World) (cur' : Array Value) (tc : TF),w'.heap[b]? = some (.cells cur' tc.1 tc.2) -> (∀ (i j : Nat) (z : Value),i < N + M -> j < E.length -> ((N <= i /\ news[(i - N) * E.length + j]? = some z) \/ (i < N /\ w.cell? ⟨b,(ρ.a a).2 + (o.den ρ.i).toNat + (i * E.length + j),none⟩ = some z)) -> cur'[(ρ.a a).2 + (o.den ρ.i).toNat + (i * E.length + j)]? = some z) →
      ∀ q ∈ appM κ d κ.n n E y ++ appO κ d κ.n E x,q.lt (κ.n + 1) /\ q.ok sg (ρ.setb κ.n (C : Int) ((b : Int),(ρ.a a).2 + (o.den ρ.i).toNat)) w':=fun w' cur' tc hw' hc' q hq=>by
     obtain ⟨i,j,c,z,xv,o',p1,p2,rfl,p3,p4,p5,p6,p7⟩:=hall q hq
     have hj : j < E.length:=(List.getElem?_eq_some_iff.1 p2).1
     have gq:=gr.agr
     have hod : o'.den (ρ.setb κ.n (C : Int) ((b : Int),(ρ.a a).2 + (o.den ρ.i).toNat)).i = ((i * E.length + j : Nat) : Int):=by rw [← Lin.den_eq gq.i p3];exact p4
     have hcell:=hc' i j z p1 hj (p7.imp_right fun ⟨h1,a',o',b',e1,e2,e3⟩=>by
      cases e1
      have : b' = b:=by omega
      subst this
      exact ⟨h1,e3⟩)
     refine ⟨⟨Nat.lt_succ_self _,lt1 p3,DC.lt_mono (Nat.le_succ _) p5⟩,by rw [hod];omega,b,tc,cur',z,by rw [ha],hw', ?_, ?_, ?_⟩
     ·rw [hod,ha]
      simp only [Int.toNat_natCast]
      exact hcell
     ·rw [hod,ha]
      simp only [Int.toNat_natCast]
      have:=hsi i (by omega) j c p2
      rw [← this]
      congr 1
      omega
     ·rw [← DC.den_eq gq p5]
      exact p6
    rcases Nat.eq_zero_or_pos M with hM0 | hMpos
    ·subst hM0
     have hnil : news = []:=List.eq_nil_of_length_eq_zero (by rw [hrow.1];simp)
     subst hnil
     obtain ⟨cur,tc,v0,z1,z2,z3⟩:=hm.zone _ _ _ (hsi 0 hC0 0 c0 hc0)
     refine ⟨_,w,run_app02 hu hi hs hNC,fin w rfl (hm1.drops _ _ _) (okq w cur tc z1 fun i j z hi hj hz=>?_)⟩
     rcases hz with ⟨h1,h2⟩ | ⟨h1,h2⟩
     ·simp at h2
     ·simpa [World.cell?,z1] using h2
    ·obtain ⟨cur,tc,hh',hsz,hL,hAC,hne,hrun⟩:=run_app_room (ty:=ty) (n:=N) hm.zone hu hi hEl hE0 hsi hs hrow hMpos hroom hby' hmax
     refine ⟨_,_,hrun,fin _ (by simp [World.setRow]) ?_ (okq _ _ tc (setRow_heap w b cur _ tc.1 tc.2 hh') fun i j z hi' hj hz=>?_)⟩
     ·refine hm1.over hh' hL hAC hne hsz (fun c hc=>?_) hmb hmo
      obtain ⟨l,hl1,hl2⟩:=List.mem_flatten.1 hc
      rw [(List.mem_replicate.1 hl1).2] at hl2
      exact List.mem_map_of_mem hl2
     ·rw [splice_cells hsz,← hEl]
      rcases hz with ⟨h1,h2⟩ | ⟨h1,h2⟩
      ·have q6:=(List.getElem?_eq_some_iff.1 h2).1
       have e : i * E.length + j = N * E.length + ((i - N) * E.length + j):=by
        rw [← Nat.add_assoc,← Nat.add_mul]
        congr 2
        omega
       rw [if_neg (by rw [e];omega),if_pos (by rw [e];omega),← h2]
       congr 1
       rw [e];omega
      ·have:=row_in h1 hj
       rw [if_pos (by omega)]
       simpa [World.cell?,hh'] using h2
 ·
  obtain ⟨G,arr,w',hge,hle,hrun,hw,hos,htp,hou,hty,hnw,hol⟩:=run_app_grow (ty:=ty) hm.zone hu hi hz hzero hEl hNC hsit hs hE0 hrow hby' hmax (by omega)
  have gr:=setb_gr hm.kn hsl (g:=G) (bo:=((w.heap.size : Int),0)) (by rw [hsN];omega) hle
  refine ⟨_,w',hrun, ?_⟩
  have ha : (ρ.setb κ.n (G : Int) ((w.heap.size : Int),0)).a κ.n = ((w.heap.size : Int),0):=by simp [Vl.setb]
  refine got_slice (bo:=((w.heap.size : Int),0)) hm.kn hsl hsN hge hle (zsig_grows hm.zone E G) (fun _=>⟨w.heap.size,rfl,rfl,fun i hi'=>by simpa using zsig_sits hi'⟩) ?_ h
  have hm1:=(hm.gr gr).push (L:=E) (N:=G) (Nat.lt_succ_self _) ha hw hos htp hou hty
  have hqs : ∀ q ∈ appM κ d κ.n n E y ++ appO κ d κ.n E x,q.lt (κ.n + 1) /\ q.ok (zsig sg w.heap.size E G) (ρ.setb κ.n (G : Int) ((w.heap.size : Int),0)) w':=fun q hq=>by
   obtain ⟨i,j,c,z,xv,o',p1,p2,rfl,p3,p4,p5,p6,p7⟩:=hall q hq
   have hj : j < E.length:=(List.getElem?_eq_some_iff.1 p2).1
   have gq:=gr.agr
   have hod : o'.den (ρ.setb κ.n (G : Int) ((w.heap.size : Int),0)).i = ((i * E.length + j : Nat) : Int):=by rw [← Lin.den_eq gq.i p3];exact p4
   have hcell : arr[i * E.length + j]? = some z:=by
    rcases p7 with ⟨h1,h2⟩ | ⟨h1,a,o,b,e1,e2,e3⟩
    ·have:=hnw _ z h2
     rw [← this]
     congr 1
     rw [← Nat.add_assoc,← Nat.add_mul]
     congr 2
     omega
    ·obtain ⟨_,_,hlies⟩:=hsome a o e1
     obtain ⟨b',hb',rfl,_⟩:=hlies (by omega)
     have : b' = b:=by omega
     subst this
     exact hol _ _ _ z (row_in h1 hj) rfl e3
   refine ⟨⟨Nat.lt_succ_self _,lt1 p3,DC.lt_mono (Nat.le_succ _) p5⟩,by rw [hod];omega,w.heap.size,(el,(0,0)),arr,z,by rw [ha],by rw [hw];simp, ?_, ?_, ?_⟩
   ·rw [hod,ha]
    simp only [Int.toNat_natCast]
    rw [Nat.zero_add]
    exact hcell
   ·rw [hod,ha]
    simp only [Int.toNat_natCast]
    have:=zsig_sits (sg:=sg) (b:=w.heap.size) (E:=E) (N:=G) (i:=i) (by omega) j c p2
    rw [← this]
    congr 1
    omega
   ·rw [← DC.den_eq gq p5]
    exact SV.ok_ext (x:=d1 xv |>.den ρ) (mu_ext (zsig_grows hm.zone E G)) p6
  cases hd with
  | none=>exact hm1.memos hqs
  | some p=>
   have hm2:=(hm1.drops (E.map CS.tag) (E.map CS.tag) (oldT En.W d p.1 (E.map CS.tag))).memos hqs
   simp only []
   cases youngD d p.1 with
   | true=>exact hm2.lower (show 1 <= 2 by omega)
   | false=>exact hm2.lower (show 0 <= 2 by omega)
theorem appT_ok {En : Ent} {sg : Sig} {P : Program} {t tx ty : TypeId} {x y : DV} {κ : Kn} {ρ : Vl} {d : Ds} {w : World} {kk : Kn -> Ds -> DV -> Bool} {u v : Value} (hm : MOk En sg κ ρ d w) (hl : x.lt κ.n) (hly : y.lt κ.n) (hx : (x.den ρ).ok (mu sg) u) (hy : (y.den ρ).ok (mu sg) v)
  (h : appT P En.W t tx x y κ d kk = true) : ∃ z w',(Builtin.append_ #[t,tx] ty #[u,v]).run P w = .ok z w' /\ GotM En sg κ ρ kk z w':=by
 unfold appT at h
 split at h
 ·rename_i el inf E hzel
  obtain ⟨hu,hi,_,hEl,hE0,hb0,z,hz,hzero⟩:=zelem_ok hzel
  split at h
  ·rename_i hd n m hh hsrc
   have h':=h
   simp only [appE,Bool.and_eq_true] at h'
   have m0:=Kn.has_ok hm.kn h'.2.1
   exact appE_ok hm hl hly hx hu hi hEl hE0 hb0 hz hzero hh m0 (srcT2_ok hEl hz (hzero sg) hm.zone hsrc hly hy m0) h
  ·cases h
 ·cases h
def roomD (E : List CS) (κ : Kn) (x : DV) (m : Lin) : Option (Nat × Lin × Lin × Lin):=match x with
 | .s (.c (.zs a o F n c))=>match eqCS F E with
  | true=>match κ.has (c.sub (n.add m)) with
   | true=>some (a,o,n,c)
   | false=>none
  | false=>none
 | _=>none
def keepD (m : Lin) (d d' : Ds) : Ds:=match m.eqb L0 with
 | true=>d
 | false=>d'
theorem keepD_zero {En : Ent} {sg : Sig} {κ : Kn} {ρ : Vl} {d d' : Ds} {m : Lin} {w : World} (h : MOk En sg κ ρ d w) (h' : MOk En sg κ ρ d' w) : MOk En sg κ ρ (keepD m d d') w:=by
 unfold keepD
 split
 ·exact h
 ·exact h'
theorem keepD_pos {m : Lin} {d d' : Ds} {i : Nat -> Int} (h : 0 < m.den i) : keepD m d d' = d':=by
 unfold keepD
 split
 ·rename_i e
  have:=Lin.eqb_eq e
  subst this
  simp [L0,Lin.num_den] at h
 ·rfl
def appT2 (P : Program) (W : Wt) (t tx : TypeId) (x y : DV) (κ : Kn) (d : Ds) (kk : Kn -> Ds -> DV -> Bool) : Bool:=
 match zelem P t with
 | some (_,inf,E)=>match srcT2 P tx E y with
  | some m=>match roomD E κ x m with
   | some (a,o,n,c)=>κ.has n && (κ.has m && (κ.has ((Lin.num 140737488355328).sub (Lin.mulc (inf.bytes : Int) (n.add m))) && (mayW W d a (E.map CS.tag) && kk κ (keepD m d ⟨dropC (E.map CS.tag) d.memo,d.adr,keepG (E.map CS.tag) (oldT W d a (E.map CS.tag)) d.G⟩) (d1 (.zs a o E (n.add m) c)))))
   | none=>appT P W t tx x y κ d kk
  | none=>false
 | none=>false
theorem appT2_ok {En : Ent} {sg : Sig} {P : Program} {t tx ty : TypeId} {x y : DV} {κ : Kn} {ρ : Vl} {d : Ds} {w : World} {kk : Kn -> Ds -> DV -> Bool} {u v : Value} (hm : MOk En sg κ ρ d w) (hl : x.lt κ.n) (hly : y.lt κ.n) (hx : (x.den ρ).ok (mu sg) u) (hy : (y.den ρ).ok (mu sg) v)
  (h : appT2 P En.W t tx x y κ d kk = true) : ∃ z w',(Builtin.append_ #[t,tx] ty #[u,v]).run P w = .ok z w' /\ GotM En sg κ ρ kk z w':=by
 unfold appT2 at h
 split at h
 ·rename_i el inf E hzel
  obtain ⟨hu,hi,_,hEl,hE0,hb0,z,hz,hzero⟩:=zelem_ok hzel
  split at h
  ·rename_i m hsrc
   split at h
   ·rename_i a o n c hr
    unfold roomD at hr
    split at hr
    ·rename_i a' o' F n' c'
     split at hr
     ·rename_i he
      split at hr
      ·rename_i hroom
       cases hr
       simp only [Bool.and_eq_true] at h
       obtain ⟨c1,c2,c3,cW,h⟩:=h
       have n0:=Kn.has_ok hm.kn c1
       have m0:=Kn.has_ok hm.kn c2
       have hby:=Kn.has_ok hm.kn c3
       have hrm:=Kn.has_ok hm.kn hroom
       obtain ⟨ad,rfl,h1,h2,h3⟩:=zs_den_ok hx
       rw [eqCS_eq he] at h3
       obtain ⟨mlt,news,hs,hrow,hnews⟩:=srcT2_ok hEl hz (hzero sg) hm.zone hsrc hly hy m0
       simp only [Lin.sub_den,Lin.num_den,Lin.mulc_den,Lin.add_den] at hby hrm
       have nlt : n.lt κ.n:=hl.2.2.1
       have clt : c.lt κ.n:=hl.2.2.2
       obtain ⟨N,hN⟩:=Int.eq_ofNat_of_zero_le n0
       obtain ⟨M,hM⟩:=Int.eq_ofNat_of_zero_le m0
       obtain ⟨C,hC⟩:=Int.eq_ofNat_of_zero_le (show 0 <= c.den ρ.i by omega)
       rw [hN,hC] at h1
       rw [hC] at h2 h3
       rw [hM] at hs hrow
       rw [hN,hM] at hby
       rw [hN,hM,hC] at hrm
       rw [hN,hC]
       simp only [Int.toNat_natCast] at h1 h2 h3 hs hrow ⊢
       have hroom : N + M <= C:=by omega
       have hby' : (N + M) * inf.bytes <= 140737488355328:=by
        have e : (inf.bytes : Int) * ((N : Int) + (M : Int)) = (((N + M) * inf.bytes : Nat) : Int):=by rw [Nat.mul_comm];push_cast;rfl
        rw [e] at hby
        omega
       have hmax : N + M <= maxLen:=by omega
       have hlt : (d1 (.zs a o E (n.add m) c)).lt κ.n:=⟨hl.1,hl.2.1,Lin.add_lt nlt mlt,clt⟩
       have hok : ((d1 (.zs a o E (n.add m) c)).den ρ).ok (mu sg) (.slice ad (N + M) C):=zs_mk (by rw [Lin.add_den,hN,hM];omega) (by rw [hC];simp) hroom h2 h3
       rcases Nat.eq_zero_or_pos M with hM0 | hMpos
       ·subst hM0
        have hnil : news = []:=List.eq_nil_of_length_eq_zero (by rw [hrow.1];simp)
        subst hnil
        exact ⟨_,w,run_app02 hu hi hs h1,sg,κ,_,_,ρ,h,Gr.refl hm.kn,hlt,hok,Grows.refl _,keepD_zero hm (hm.drops _ _ _)⟩
       ·obtain ⟨b,hb,rfl,hsi⟩:=h3 (by omega)
        obtain ⟨cur,tc,hh',hsz,hL,hAC,hne,hrun⟩:=run_app_room (ty:=ty) (n:=N) hm.zone hu hi hEl hE0 hsi hs hrow hMpos hroom hby' hmax
        obtain ⟨hmb,hmo⟩:=mayW_ok hm hb cW
        rw [keepD_pos (i:=ρ.i) (by rw [hM];omega)] at h
        refine ⟨_,_,hrun,sg,κ,_,_,ρ,h,Gr.refl hm.kn,hlt,hok,Grows.refl _,hm.over hh' hL hAC hne hsz (fun c hc=>?_) hmb hmo⟩
        obtain ⟨l,hl1,hl2⟩:=List.mem_flatten.1 hc
        rw [(List.mem_replicate.1 hl1).2] at hl2
        exact List.mem_map_of_mem hl2
      ·cases hr
     ·cases hr
    ·cases hr
   ·exact appT_ok hm hl hly hx hy h
  ·cases h
 ·cases h
end
end Vx
namespace Vx
noncomputable section
open Go Zx
def Ret (ρ : Vl) (y : DV) (o : Out SV) : Prop:=o = .ret (y.den ρ)
theorem Ret.run {ρ : Vl} {y : DV} {o : Out SV} (h : Ret ρ y o) : o.wp (fun sv=>sv = y.den ρ):=by rw [h];rfl
def partD (P : Program) (t : TypeId) (cs : List DC) (off : Nat) : Option DV:=
 match P.underlying t,P.info? t with
 | some d,some inf=>if agD d then some (.s (.a ((cs.drop off).take inf.size))) else
   match cs[off]? with
   | some c=>some (d1 c)
   | none=>none
 | _,_=>none
theorem partD_ok {P : Program} {t : TypeId} {cs : List DC} {off : Nat} {y : DV} {n : Nat} (h : partD P t cs off = some y) (hl : ∀ c ∈ cs,c.lt n) (ρ : Vl) : y.lt n /\ Ret ρ y (partOut P t (cs.map (DC.den ρ)) off):=by
 unfold partD at h
 unfold partOut
 split at h
 ·rename_i d inf hu hi
  simp only [hu,hi]
  split at h
  ·rename_i hag
   cases h
   refine ⟨fun c hc=>hl c (List.mem_of_mem_drop (List.mem_of_mem_take hc)), ?_⟩
   rw [if_pos hag]
   simp [Ret,DV.den,D1.den,List.map_drop,List.map_take]
  ·rename_i hag
   split at h
   ·rename_i c hc
    cases h
    refine ⟨hl c (List.mem_of_getElem? hc), ?_⟩
    rw [if_neg hag]
    simp [Ret,d1,DV.den,D1.den,hc,one]
   ·cases h
 ·cases h
def DV.agg? : DV -> Option (List DC)
 | .s (.a cs)=>some cs
 | _=>none
theorem DV.agg?_den {x : DV} {cs : List DC} (h : x.agg? = some cs) (ρ : Vl) : (x.den ρ).agg? = some (cs.map (DC.den ρ)):=by
 unfold DV.agg? at h
 split at h
 ·cases h;rfl
 ·cases h
theorem DV.agg?_lt {x : DV} {cs : List DC} (h : x.agg? = some cs) {n : Nat} (hx : x.lt n) : ∀ c ∈ cs,c.lt n:=by
 unfold DV.agg? at h
 split at h
 ·cases h;exact hx
 ·cases h
def fieldD (P : Program) (s : TypeId) (x : DV) (f : Nat) : Option DV:=
 match P.underlying s,x.agg? with
 | some (.struct fs),some cs=>match fs[f]? with
  | some fd=>partD P fd.type cs fd.offset
  | none=>none
 | _,_=>none
theorem fieldD_ok {P : Program} {s : TypeId} {x y : DV} {f : Nat} {n : Nat} (h : fieldD P s x f = some y) (hl : x.lt n) (ρ : Vl) : y.lt n /\ Ret ρ y (fieldV P s (x.den ρ) f):=by
 unfold fieldD at h
 unfold fieldV
 split at h
 ·rename_i fs cs hu hc
  simp only [hu,DV.agg?_den hc ρ]
  split at h
  ·rename_i fd hf
   simp only [hf]
   exact partD_ok h (DV.agg?_lt hc hl) ρ
  ·cases h
 ·cases h
def extractD (x : DV) (i : Nat) : Option DV:=
 match x with
 | .t xs=>match xs[i]? with
  | some y=>some (.s y)
  | none=>none
 | _=>none
theorem extractD_ok {x y : DV} {i n : Nat} (h : extractD x i = some y) (hl : x.lt n) (ρ : Vl) : y.lt n /\ Ret ρ y (extractOut (x.den ρ) i):=by
 unfold extractD at h
 split at h
 ·rename_i xs
  split at h
  ·rename_i y' hy
   cases h
   exact ⟨hl _ (List.mem_of_getElem? hy),by simp [Ret,extractOut,DV.den,hy]⟩
  ·cases h
 ·cases h
def setD (old : List DC) (j : Nat) (cs : List DC) : List DC:=old.take j ++ cs ++ old.drop (j + cs.length)
theorem setD_den (ρ : Vl) (old : List DC) (j : Nat) (cs : List DC) : (setD old j cs).map (DC.den ρ) = setAt (old.map (DC.den ρ)) j (cs.map (DC.den ρ)):=by
 simp [setD,setAt,List.map_take,List.map_drop]
def fillD (place : Nat -> Option (Nat × Nat)) (cells : List DC) : List (Nat × DV) -> Option (List DC)
 | []=>some cells
 | (i,v) :: rest=>
  match place i,v.cells? with
  | some (off,size),some cs=>if Nat.beq cs.length size && Nat.ble (off + cs.length) cells.length then fillD place (setD cells off cs) rest else none
  | _,_=>none
theorem fillD_ok {place : Nat -> Option (Nat × Nat)} {n : Nat} (ρ : Vl) : ∀ {parts : List (Nat × DV)} {cells out : List DC},fillD place cells parts = some out -> (∀ c ∈ cells,c.lt n) -> (∀ p ∈ parts,p.2.lt n) →
  (∀ c ∈ out,c.lt n) /\ fillS place (cells.map (DC.den ρ)) (parts.map fun p=>(p.1,p.2.den ρ)) = some (out.map (DC.den ρ))
 | [],cells,out,h,hc,_=>by cases h;exact ⟨hc,rfl⟩
 | (i,v) :: rest,cells,out,h,hc,hp=>by
  simp only [fillD] at h
  split at h
  ·rename_i off size cs hpl hv
   split at h
   ·rename_i hcond
    simp only [Bool.and_eq_true] at hcond
    have h1:=Nat.eq_of_beq_eq_true hcond.1
    have h2:=Nat.le_of_ble_eq_true hcond.2
    have hvl:=DV.cells?_lt hv (hp (i,v) (by simp))
    obtain ⟨g1,g2⟩:=fillD_ok ρ h (fun c hm=>by
     unfold setD at hm
     rcases List.mem_append.1 hm with hm | hm
     ·rcases List.mem_append.1 hm with hm | hm
      ·exact hc c (List.mem_of_mem_take hm)
      ·exact hvl c hm
     ·exact hc c (List.mem_of_mem_drop hm)) fun p hm=>hp p (by simp [hm])
    refine ⟨g1, ?_⟩
    simp only [List.map_cons,fillS,hpl,DV.cells?_den hv ρ]
    rw [if_pos (by simp;omega),← setD_den]
    exact g2
   ·cases h
  ·cases h
theorem constDL_den (ρ : Vl) : ∀ {vs : List Value} {cs : List DC},constDL vs = some cs -> constL vs = some (cs.map (DC.den ρ))
 | [],cs,h=>by cases h;rfl
 | v :: vs,cs,h=>by
  simp only [constDL] at h
  split at h
  ·rename_i c cs' h1 h2
   cases h
   have e : constSC v = some (c.den ρ):=by
    unfold constDC at h1
    split at h1 <;> simp at h1 <;> subst h1 <;> rfl
   simp [constL,e,constDL_den ρ h2]
  ·cases h
def buildD (P : Program) (t : TypeId) (parts : List (Nat × DV)) : Option DV:=
 match P.info? t,P.underlying t with
 | some inf,some (.struct fs)=>match inf.zero,placesL P fs.toList with
  | some z,some pl=>match constDL z.cells.toList with
   | some cs=>match fillD (fun i=>pl[i]?) cs parts with
    | some out=>some (.s (.a out))
    | none=>none
   | none=>none
  | _,_=>none
 | some inf,some (.array n e)=>match inf.zero,P.info? e with
  | some z,some ie=>match constDL z.cells.toList with
   | some cs=>match fillD (fun i=>some (i * ie.size,ie.size)) cs parts with
    | some out=>some (.s (.a out))
    | none=>none
   | none=>none
  | _,_=>none
 | _,_=>none
theorem buildD_ok {P : Program} {t : TypeId} {parts : List (Nat × DV)} {y : DV} {n : Nat} (h : buildD P t parts = some y) (hl : ∀ p ∈ parts,p.2.lt n) (ρ : Vl) : y.lt n /\ Ret ρ y (buildOut P t (parts.map fun p=>(p.1,p.2.den ρ))):=by
 unfold buildD at h
 unfold buildOut
 split at h
 ·rename_i inf fs hi hu
  split at h
  ·rename_i z pl hz hpl
   split at h
   ·rename_i cs hcs
    split at h
    ·rename_i out hf
     cases h
     have hc:=constDL_ok (sg:=fun _ _=>none) (ρ:=ρ) (n:=n) hcs
     obtain ⟨g1,g2⟩:=fillD_ok ρ hf hc.1 hl
     refine ⟨g1, ?_⟩
     simp only [Ret,hi,hu,hz,hpl,constDL_den ρ hcs,g2];rfl
    ·cases h
   ·cases h
  ·cases h
 ·rename_i inf m e hi hu
  split at h
  ·rename_i z ie hz hie
   split at h
   ·rename_i cs hcs
    split at h
    ·rename_i out hf
     cases h
     have hc:=constDL_ok (sg:=fun _ _=>none) (ρ:=ρ) (n:=n) hcs
     obtain ⟨g1,g2⟩:=fillD_ok ρ hf hc.1 hl
     refine ⟨g1, ?_⟩
     simp only [Ret,hi,hu,hz,hie,constDL_den ρ hcs,g2];rfl
    ·cases h
   ·cases h
  ·cases h
 ·cases h
end
end Vx
