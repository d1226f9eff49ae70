/- A part of the proof: lemmas. No condition of its own. -/
import Derived.Test.YtglcgbhhkjebbaaGreatK09
set_option linter.unusedVariables false
set_option linter.unusedSimpArgs false
namespace Vx
noncomputable section
open Go Zx
def chkCT (c : CS) (x : DC) (κ : Kn) : Bool:=
 match c,x with
 | .int _ k lo hi,.num k' n=>decide (k = k') && (decide (hi < lo) || (decide (lo <= n) && decide (n <= hi)))
 | .int _ k lo hi,.int k' e=>decide (k = k') && (decide (hi < lo) || (κ.has (e.addc (-lo)) && κ.has ((Lin.num hi).sub e)))
 | .bool _,.tru _=>true
 | .bool _,.boo _ _=>true
 | .str _,.str _=>true
 | .str _,.strL _=>true
 | .ptr _ _ nn,.nil=>match nn with
  | true=>false
  | false=>true
 | .ptr _ nm _,.zp _ _ M=>preCS (zTab nm) M
 | .ptr _ nm nn,.np _ v _ M=>preCS (zTab nm) M && !nn
 | .sli _ nm mx,.zs _ _ E n _=>eqCS E (zTab nm) && κ.has ((Lin.num mx).sub n)
 | .sli _ _ _,.nos=>true
 | _,_=>false
theorem zs_den_ok {sg : Sig} {ρ : Vl} {a : Nat} {o n c : Lin} {E : List CS} {u : Value} (h : ((DC.zs a o E n c).den ρ).ok (mu sg) u) :
  ∃ ad,u = .slice ad (n.den ρ.i).toNat (c.den ρ.i).toNat /\ (n.den ρ.i).toNat <= (c.den ρ.i).toNat /\ (c.den ρ.i).toNat <= maxLen ∧
   (0 < (c.den ρ.i).toNat -> ∃ b : Nat,(ρ.a a).1 = (b : Int) /\ ad = some ⟨b,(ρ.a a).2 + (o.den ρ.i).toNat,none⟩ /\ ∀ i,i < (c.den ρ.i).toNat -> Sits sg b ((ρ.a a).2 + (o.den ρ.i).toNat + i * E.length) E):=by
 simp only [DC.den] at h
 split at h
 ·rename_i h0
  obtain ⟨ad,h1,h2,h3,h4⟩:=h
  refine ⟨ad,h1,h2,h3,fun hc=>?_⟩
  have h5 : 0 <= (ρ.a a).1:=by omega
  obtain ⟨b,hb⟩:=Int.eq_ofNat_of_zero_le h5
  obtain ⟨h6,h7⟩:=h4 hc
  rw [hb] at h6 h7
  exact ⟨b,hb,h6,h7⟩
 ·obtain ⟨l,a,hl,_⟩:=h
  simp [mu] at hl
theorem chkCT_ok {c : CS} {x : DC} {κ : Kn} {ρ : Vl} {sg : Sig} {v : Value} (hκ : κ.Ok ρ) (h : chkCT c x κ = true) (hx : (x.den ρ).ok (mu sg) v) : c.ok sg v:=by
 unfold chkCT at h
 split at h
 ·simp only [Bool.and_eq_true,Bool.or_eq_true,decide_eq_true_eq] at h
  obtain ⟨rfl,h1⟩:=h
  exact ⟨_,hx,h1⟩
 ·simp only [Bool.and_eq_true,Bool.or_eq_true,decide_eq_true_eq] at h
  obtain ⟨rfl,h1⟩:=h
  refine ⟨_,hx,h1.imp id fun h1=>?_⟩
  have h2:=Kn.has_ok hκ h1.2
  have h1:=Kn.has_ok hκ h1.1
  rw [Lin.addc_den] at h1
  rw [Lin.sub_den,Lin.num_den] at h2
  exact ⟨by omega,by omega⟩
 ·exact ⟨_,hx⟩
 ·exact ⟨_,hx⟩
 ·exact ⟨_,hx⟩
 ·exact ⟨_,hx⟩
 ·split at h
  ·cases h
  ·exact .inl ⟨rfl,hx⟩
 ·obtain ⟨b,_,rfl,hs⟩:=zp_ok hx
  exact .inr ⟨b,_,rfl,hs.pre h⟩
 ·rename_i g nm nn a v o M
  rw [Bool.and_eq_true] at h
  rcases np_ok hx with ⟨_,hz⟩ | ⟨hne,rfl⟩
  ·obtain ⟨b,_,rfl,hs⟩:=zp_ok hz
   exact .inr ⟨b,_,rfl,hs.pre h.1⟩
  ·refine .inl ⟨?_,rfl⟩
   cases nn with
   | false=>rfl
   | true=>have h2:=h.2;cases h2
 ·simp only [Bool.and_eq_true] at h
  have h2:=Kn.has_ok hκ h.2
  rw [Lin.sub_den,Lin.num_den] at h2
  obtain ⟨ad,rfl,h3,h4,h5⟩:=zs_den_ok hx
  refine ⟨ad,_,_,rfl,h3,h4,by omega,fun hc=>?_⟩
  obtain ⟨b,_,h6,h7⟩:=h5 hc
  rw [eqCS_eq h.1] at h7
  exact ⟨b,_,h6,h7⟩
 ·obtain ⟨a,rfl⟩:=hx
  exact ⟨a,0,0,rfl,Nat.le_refl _,Nat.zero_le _,Nat.zero_le _,fun hc=>absurd hc (by omega)⟩
 ·cases h
def chkLT : List CS -> List DC -> Kn -> Bool
 | [],[],_=>true
 | c :: cs,x :: xs,κ=>chkCT c x κ && chkLT cs xs κ
 | _,_,_=>false
theorem chkLT_ok {κ : Kn} {ρ : Vl} {sg : Sig} (hκ : κ.Ok ρ) : ∀ {L : List CS} {xs : List DC} {vs : List Value},chkLT L xs κ = true -> All2 (SC.ok (mu sg)) (xs.map (DC.den ρ)) vs -> AllC sg L vs
 | [],[],[],_,_=>trivial
 | c :: cs,x :: xs,v :: vs,h,hh=>by
  simp only [chkLT,Bool.and_eq_true] at h
  exact ⟨chkCT_ok hκ h.1 hh.1,chkLT_ok hκ h.2 hh.2⟩
 | [],[],_ :: _,_,hh=>hh.elim
 | _ :: _,_ :: _,[],_,hh=>hh.elim
 | [],_ :: _,_,h,_=>by simp [chkLT] at h
 | _ :: _,[],_,h,_=>by simp [chkLT] at h
def clsOf : List (Nat × Nat) -> Nat -> Option Nat
 | [],_=>none
 | p :: ps,a=>match Nat.beq p.1 a with
  | true=>some p.2
  | false=>clsOf ps a
theorem clsOf_ok : ∀ {l : List (Nat × Nat)} {a q : Nat},clsOf l a = some q -> (a,q) ∈ l
 | [],_,_,h=>by simp [clsOf] at h
 | p :: ps,a,q,h=>by
  simp only [clsOf] at h
  split at h
  ·rename_i e
   cases h
   have:=Nat.eq_of_beq_eq_true e
   subst this
   simp
  ·exact List.mem_cons_of_mem _ (clsOf_ok h)
def cls (d : Ds) (a : Nat) : Nat:=match clsOf d.adr a with
 | some q=>q + 1
 | none=>0
theorem cls_ok {d : Ds} {a n : Nat} (h : Nat.ble (n + 1) (cls d a) = true) : ∃ q,(a,q) ∈ d.adr /\ n <= q:=by
 have h:=Nat.le_of_ble_eq_true h
 unfold cls at h
 split at h
 ·rename_i q hq
  exact ⟨q,clsOf_ok hq,by omega⟩
 ·omega
def youngD (d : Ds) (a : Nat) : Bool:=Nat.ble 2 (cls d a)
def apartD (d : Ds) (a b : Nat) : Bool:=
 (Nat.ble 3 (cls d a) && (Nat.ble 1 (cls d b) && Nat.blt b a)) || (Nat.ble 3 (cls d b) && (Nat.ble 1 (cls d a) && Nat.blt a b))
theorem apartD_ok {E : Ent} {sg : Sig} {κ : Kn} {ρ : Vl} {d : Ds} {w : World} (hm : MOk E sg κ ρ d w) {a b : Nat} (h : apartD d a b = true) (ha : 0 <= (ρ.a a).1) (hb : 0 <= (ρ.a b).1) : (ρ.a a).1 ≠ (ρ.a b).1:=by
 simp only [apartD,Bool.or_eq_true,Bool.and_eq_true] at h
 rcases h with ⟨h1,h2,h3⟩ | ⟨h1,h2,h3⟩
 ·obtain ⟨q1,m1,k1⟩:=cls_ok (n:=2) h1
  obtain ⟨q2,m2,_⟩:=cls_ok (n:=0) h2
  exact (hm.fresh _ m1 k1 ha _ m2 (by simpa [Nat.blt_eq] using h3)).symm
 ·obtain ⟨q1,m1,k1⟩:=cls_ok (n:=2) h1
  obtain ⟨q2,m2,_⟩:=cls_ok (n:=0) h2
  exact hm.fresh _ m1 k1 hb _ m2 (by simpa [Nat.blt_eq] using h3)
def iLe (a b : Int) : Bool:=@Int.rec (fun _=>Bool) (fun m=>@Int.rec (fun _=>Bool) (fun n=>Nat.ble m n) (fun _=>false) b) (fun m=>@Int.rec (fun _=>Bool) (fun _=>true) (fun n=>Nat.ble n m) b) a
theorem iLe_ok : ∀ {a b : Int},iLe a b = true -> a <= b
 | .ofNat m,.ofNat n,h=>Int.ofNat_le.2 (Nat.le_of_ble_eq_true h)
 | .ofNat m,.negSucc n,h=>by cases h
 | .negSucc m,.ofNat n,h=>by
  have e : Int.ofNat n = (n : Int):=rfl
  rw [Int.negSucc_eq,e];omega
 | .negSucc m,.negSucc n,h=>by
  have:=Nat.le_of_ble_eq_true (show Nat.ble n m = true from h)
  rw [Int.negSucc_eq,Int.negSucc_eq];omega
theorem ble_no {m n : Nat} (h : Nat.ble m n = false) : n < m:=by
 rcases Nat.lt_or_ge n m with k | k
 ·exact k
 ·rw [Nat.ble_eq_true_of_le k] at h;cases h
theorem iLe_no : ∀ {a b : Int},iLe a b = false -> b < a
 | .ofNat m,.ofNat n,h=>Int.ofNat_lt.2 (ble_no h)
 | .ofNat m,.negSucc n,h=>by
  have e : Int.ofNat m = (m : Int):=rfl
  rw [Int.negSucc_eq,e];omega
 | .negSucc m,.ofNat n,h=>by cases h
 | .negSucc m,.negSucc n,h=>by
  have:=ble_no (show Nat.ble n m = false from h)
  rw [Int.negSucc_eq,Int.negSucc_eq];omega
def offC (x y : Lin) (n : Nat) : Bool:=@Bool.rec (fun _=>Bool) false (@Bool.rec (fun _=>Bool) true (iLe (y.c + (n : Int)) x.c) (iLe y.c x.c)) (Tm.eqb x.t y.t)
theorem offC_ok {x y : Lin} {n : Nat} (h : offC x y n = true) (ρ : Val) : x.den ρ < y.den ρ \/ y.den ρ + n <= x.den ρ:=by
 unfold offC at h
 cases h1 : Tm.eqb x.t y.t with
 | false=>rw [h1] at h;cases h
 | true=>
  rw [h1] at h
  have e:=Tm.eqb_eq h1
  simp only [Lin.den,e]
  cases h2 : iLe y.c x.c with
  | false=>have:=iLe_no h2;omega
  | true=>
   rw [h2] at h
   have:=iLe_ok h
   omega
def staysC (d : Ds) (a : Nat) (o : Lin) (L : List CS) (m : Cell) : Bool:=
 @Bool.rec (fun _=>Bool) true (@Bool.rec (fun _=>Bool) (apartD d m.a a || (Nat.beq m.a a && (isC (m.o.sub o) && (decide ((m.o.sub o).c < 0) || decide ((L.length : Int) <= (m.o.sub o).c))))) (@Bool.rec (fun _=>Bool) (apartD d m.a a || (Nat.beq m.a a && (isC (m.o.sub o) && (decide ((m.o.sub o).c < 0) || decide ((L.length : Int) <= (m.o.sub o).c))))) true (offC m.o o L.length)) (Nat.beq m.a a)) (memN m.c.tag (L.map CS.tag))
theorem staysC_or {d : Ds} {a : Nat} {o : Lin} {L : List CS} {m : Cell} (h : staysC d a o L m = true) : memN m.c.tag (L.map CS.tag) = false \/ (apartD d m.a a || (Nat.beq m.a a && (isC (m.o.sub o) && (decide ((m.o.sub o).c < 0) || decide ((L.length : Int) <= (m.o.sub o).c))))) = true \/ (m.a = a /\ offC m.o o L.length = true):=by
 unfold staysC at h
 cases h1 : memN m.c.tag (L.map CS.tag) with
 | false=>exact .inl rfl
 | true=>
  rw [h1] at h
  cases h2 : Nat.beq m.a a with
  | false=>rw [h2] at h;exact .inr (.inl (by simpa only [h2] using h))
  | true=>
   rw [h2] at h
   cases h3 : offC m.o o L.length with
   | false=>rw [h3] at h;exact .inr (.inl (by simpa only [h2] using h))
   | true=>exact .inr (.inr ⟨Nat.eq_of_beq_eq_true h2,rfl⟩)
def keepC (d : Ds) (a : Nat) (o : Lin) (L : List CS) (l : List Cell) : List Cell:=@List.rec Cell (fun _=>List Cell) [] (fun m _ ih=>@Bool.rec (fun _=>List Cell) ih (m :: ih) (staysC d a o L m)) l
theorem keepC_cons (d : Ds) (a : Nat) (o : Lin) (L : List CS) (m : Cell) (ms : List Cell) : keepC d a o L (m :: ms) = @Bool.rec (fun _=>List Cell) (keepC d a o L ms) (m :: keepC d a o L ms) (staysC d a o L m):=rfl
theorem keepC_ok {d : Ds} {a : Nat} {o : Lin} {L : List CS} : ∀ {ms : List Cell} {m : Cell},m ∈ keepC d a o L ms -> m ∈ ms /\ staysC d a o L m = true
 | [],m,h=>by cases h
 | x :: ms,m,h=>by
  rw [keepC_cons] at h
  cases e : staysC d a o L x with
  | true=>
   rw [e] at h
   rcases List.mem_cons.1 h with rfl | h
   ·exact ⟨by simp,e⟩
   ·have:=keepC_ok h;exact ⟨by simp [this.1],this.2⟩
  | false=>rw [e] at h;have:=keepC_ok h;exact ⟨by simp [this.1],this.2⟩
def putC (a : Nat) : Lin -> List CS -> List DC -> List Cell
 | o,c :: cs,x :: xs=>⟨a,o,c,x⟩ :: putC a (o.addc 1) cs xs
 | _,_,_=>[]
theorem putC_mem {a : Nat} : ∀ {L : List CS} {xs : List DC} {o : Lin} {m : Cell},m ∈ putC a o L xs -> ∃ (j : Nat) (c : CS) (x : DC),L[j]? = some c /\ xs[j]? = some x /\ m = ⟨a,o.addc j,c,x⟩
 | [],_,_,_,h=>by simp [putC] at h
 | _ :: _,[],_,_,h=>by simp [putC] at h
 | c :: cs,x :: xs,o,m,h=>by
  simp only [putC] at h
  rcases List.mem_cons.1 h with rfl | h
  ·exact ⟨0,c,x,rfl,rfl,by simp [Lin.addc]⟩
  ·obtain ⟨j,c',x',h1,h2,rfl⟩:=putC_mem h
   refine ⟨j + 1,c',x',by simpa using h1,by simpa using h2, ?_⟩
   simp [Lin.addc];omega
def DV.cells? : DV -> Option (List DC)
 | .s (.c c)=>some [c]
 | .s (.a cs)=>some cs
 | _=>none
theorem DV.cells?_den {x : DV} {cs : List DC} (h : x.cells? = some cs) (ρ : Vl) : (x.den ρ).cells? = some (cs.map (DC.den ρ)):=by
 unfold DV.cells? at h
 split at h
 ·cases h;rfl
 ·cases h;rfl
 ·cases h
theorem DV.cells?_lt {x : DV} {cs : List DC} (h : x.cells? = some cs) {n : Nat} (hx : x.lt n) : ∀ c ∈ cs,c.lt n:=by
 unfold DV.cells? at h
 split at h
 ·cases h;exact fun c hc=>by simp at hc;subst hc;exact hx
 ·cases h;exact hx
 ·cases h
def tagsY (W : Wt) : List Nat -> Bool
 | []=>true
 | g :: gs=>(memN g W.W || memN g W.ys) && tagsY W gs
theorem tagsY_ok {W : Wt} : ∀ {L : List Nat},tagsY W L = true -> ∀ g ∈ L,g ∈ W.W \/ g ∈ W.ys
 | x :: L,h,g,hg=>by
  simp only [tagsY,Bool.and_eq_true,Bool.or_eq_true] at h
  rcases List.mem_cons.1 hg with rfl | hg
  ·exact h.1.imp memN_ok memN_ok
  ·exact tagsY_ok h.2 g hg
def subN : List Nat -> List Nat -> Bool
 | [],_=>true
 | g :: gs,m=>memN g m && subN gs m
theorem subN_ok : ∀ {l m : List Nat},subN l m = true -> ∀ g ∈ l,g ∈ m
 | x :: l,m,h,g,hg=>by
  simp only [subN,Bool.and_eq_true] at h
  rcases List.mem_cons.1 hg with rfl | hg
  ·exact memN_ok h.1
  ·exact subN_ok h.2 g hg
def mayW (W : Wt) (d : Ds) (a : Nat) (T : List Nat) : Bool:=match youngD d a with
 | true=>match W.hasY with
  | false=>true
  | true=>tagsY W T
 | false=>subN T W.W
def oldT (W : Wt) (d : Ds) (a : Nat) (T : List Nat) : List Nat:=match youngD d a with
 | true=>match W.hasY with
  | false=>[]
  | true=>T
 | false=>T
def MayB (E : Ent) (b : Nat) (T : List Nat) : Prop:=E.w.heap.size <= b \/ (∀ g ∈ T,g ∈ E.W.W) \/ (E.ow b /\ ∀ g ∈ T,g ∈ E.W.W \/ g ∈ E.W.ys)
theorem mayW_ok {E : Ent} {sg : Sig} {κ : Kn} {ρ : Vl} {d : Ds} {w : World} {a b : Nat} {T : List Nat} (hm : MOk E sg κ ρ d w) (hb : (ρ.a a).1 = (b : Int)) (h : mayW E.W d a T = true) : MayB E b T /\ ((∀ g ∈ T,g ∈ oldT E.W d a T) \/ E.w.heap.size <= b):=by
 have yg : youngD d a = true -> E.yg (b : Int):=fun hy=>by
  obtain ⟨q,m1,k1⟩:=cls_ok (n:=1) hy
  have:=hm.young _ m1 k1 (by simp only [];rw [hb];omega)
  simp only [] at this
  rw [hb] at this
  exact this
 unfold mayW at h
 unfold oldT MayB
 cases hy : youngD d a with
 | true=>
  simp only [hy] at h ⊢
  cases h9 : E.W.hasY with
  | false=>
   rcases yg hy with k | ⟨b',e,k⟩
   ·exact ⟨.inl (by omega),.inr (by omega)⟩
   ·exact absurd k.1 (by rw [h9];decide)
  | true=>
   simp only [h9] at h ⊢
   rcases yg hy with k | ⟨b',e,k⟩
   ·exact ⟨.inl (by omega),.inr (by omega)⟩
   ·have : b = b':=by omega
    subst this
    exact ⟨.inr (.inr ⟨k,tagsY_ok h⟩),.inl fun _ h=>h⟩
 | false=>
  simp only [hy] at h ⊢
  exact ⟨.inr (.inl (subN_ok h)),.inl fun _ h=>h⟩
theorem Frm.row {E : Ent} {sg : Sig} {w : World} {b : Nat} {cur arr : Array Value} {t : TF} {T : List Nat} (hfr : Frm E sg w) (hh : w.heap[b]? = some (.cells cur t.1 t.2)) (hsz : arr.size = cur.size) (hT : ∀ o,(∀ c,sg b o = some c -> c.tag ∉ T) -> arr[o]? = cur[o]?) (hW : MayB E b T) : Frm E sg (w.setRow b arr):=by
 have hrow:=setRow_heap w b cur arr t.1 t.2 hh
 have hoth : ∀ x,x ≠ b -> (w.setRow b arr).heap[x]? = w.heap[x]?:=fun x hx=>setRow_keep w b x _ hx
 refine ⟨by simpa [World.setRow] using hfr.size,hfr.os,hfr.tape,hfr.output,hfr.sig,fun x hx=>?_⟩
 by_cases e : x = b
 ·subst e
  right
  have base : ∃ cur0,E.w.heap[x]? = some (.cells cur0 t.1 t.2) /\ cur.size = cur0.size /\ ∀ o,(∀ c,E.sg x o = some c -> c.tag ∉ E.W.W /\ (E.ow x -> c.tag ∉ E.W.ys)) -> cur[o]? = cur0[o]?:=by
   rcases hfr.keep x hx with h | ⟨c1,c2,t',h1,h2,h3,h4⟩
   ·rw [hh] at h
    exact ⟨cur,h.symm,rfl,fun _ _=>rfl⟩
   ·obtain ⟨rfl,rfl⟩:=cells_inj hh h2
    exact ⟨c1,h1,h3,h4⟩
  obtain ⟨cur0,g1,g2,g3⟩:=base
  refine ⟨cur0,arr,t,g1,hrow,hsz.trans g2,fun o ho=>(hT o fun c hc=>?_).trans (g3 o ho)⟩
  rw [hfr.sig x o hx] at hc
  have h1:=ho c hc
  intro hcT
  rcases hW with k | k | ⟨k1,k2⟩
  ·omega
  ·exact h1.1 (k _ hcT)
  ·rcases k2 _ hcT with k | k
   ·exact h1.1 k
   ·exact h1.2 k1 k
 ·rw [hoth x e];exact hfr.keep x hx
theorem gok_row {E : Ent} {sg : Sig} {κ : Kn} {ρ : Vl} {d : Ds} {w : World} (hm : MOk E sg κ ρ d w) {b : Nat} {cur arr : Array Value} {t : TF} {T T' : List Nat} (hh : w.heap[b]? = some (.cells cur t.1 t.2)) (hsz : arr.size = cur.size) (hT : ∀ o,(∀ c,sg b o = some c -> c.tag ∉ T) -> arr[o]? = cur[o]?) (hO : (∀ g ∈ T,g ∈ T') \/ E.w.heap.size <= b) :
  ∀ f ∈ keepG T T' d.G,f.ok E sg ρ (w.setRow b arr):=by
 have hF : Frm (Ent.none w sg T) sg (w.setRow b arr):=Frm.row Frm.refl hh hsz hT (.inr (.inl fun _ h=>h))
 refine gok_step hm.gok (fun _ _ _ h=>h) hF ?_
 rcases hO with h | h
 ·exact Frm.cut hm.fr.size (Frm.row Frm.refl hh hsz (fun o ho=>hT o fun c hc hn=>ho c hc (h _ hn)) (.inr (.inl fun _ h=>h)))
 ·have f:=Frm.cutKeep (n:=E.w.heap.size) hm.fr.size hF fun x hx=>setRow_keep w b x _ (by omega)
  exact ⟨f.size,f.os,f.tape,f.output,f.sig,fun x hx=>.inl (by
   rcases f.keep x hx with k | ⟨c1,c2,t',h1,h2,h3,h4⟩
   ·exact k
   ·show (cutW _ _).heap[x]? = (cutW _ _).heap[x]?
    have h1 : (cutW E.w.heap.size w).heap[x]? = some (.cells c1 t'.1 t'.2):=h1
    rw [h1,h2]
    congr 2
    exact Array.ext_getElem? fun o=>h4 o fun c _=>⟨by simp,fun h=>by cases h.2⟩)⟩
def nearDC (d : Ds) (a : Nat) : DC -> Bool
 | .num _ _=>true
 | .int _ _=>true
 | .zs b _ _ _ _=>apartD d b a
 | _=>false
theorem nearDC_ok {E : Ent} {sg : Sig} {κ : Kn} {ρ : Vl} {d : Ds} {w : World} (hm : MOk E sg κ ρ d w) {a b : Nat} (hb : (ρ.a a).1 = (b : Int)) {x : DC} {v : Value} (h : nearDC d a x = true) (hx : (x.den ρ).ok (mu sg) v) : farV b v:=by
 unfold nearDC at h
 split at h
 ·rw [show v = _ from hx];trivial
 ·rw [show v = _ from hx];trivial
 ·rename_i c o E' n cc
  simp only [DC.den] at hx
  split at hx
  ·rename_i h0
   obtain ⟨a',rfl,h1,h2,h3⟩:=hx
   refine ⟨h1,fun hc ad he hbb=>?_⟩
   obtain ⟨h4,_⟩:=h3 hc
   rw [h4] at he
   cases he
   have h5 : 0 <= (ρ.a c).1:=by
    rcases h0 with h0 | h0
    ·exact h0
    ·omega
   have:=apartD_ok hm h h5 (by rw [hb];omega)
   simp only [] at hbb
   omega
  ·obtain ⟨l,a',h1,_⟩:=hx
   cases h1
 ·cases h
theorem nearL_ok {E : Ent} {sg : Sig} {κ : Kn} {ρ : Vl} {d : Ds} {w : World} (hm : MOk E sg κ ρ d w) {a b : Nat} (hb : (ρ.a a).1 = (b : Int)) : ∀ {xs : List DC} {vs : List Value},allB (nearDC d a) xs = true -> All2 (SC.ok (mu sg)) (xs.map (DC.den ρ)) vs -> ∀ v ∈ vs,farV b v
 | [],[],_,_,v,hv=>by cases hv
 | x :: xs,u :: vs,h,hx,v,hv=>by
  rcases List.mem_cons.1 hv with rfl | hv
  ·exact nearDC_ok hm hb (allB_ok h x (by simp)) hx.1
  ·exact nearL_ok hm hb (by simp only [allB,Bool.and_eq_true] at h;exact h.2) hx.2 v hv
 | [],_ :: _,_,hx,_,_=>hx.elim
 | _ :: _,[],_,hx,_,_=>hx.elim
def keepS (d : Ds) (a : Nat) (T T' : List Nat) : List Fct -> List Fct
 | []=>[]
 | f :: fs=>match apartN (atomT f.f.id) (match f.old with
   | true=>T'
   | false=>T) with
  | true=>f :: keepS d a T T' fs
  | false=>match !f.old && (nearA f.f.id && allB (nearDC d a) f.f.xs) with
   | true=>f :: keepS d a T T' fs
   | false=>keepS d a T T' fs
theorem keepS_ok {d : Ds} {a : Nat} {T T' : List Nat} : ∀ {l : List Fct} {f : Fct},f ∈ keepS d a T T' l -> f ∈ l /\ (apartN (atomT f.f.id) (match f.old with
  | true=>T'
  | false=>T) = true \/ (f.old = false /\ nearA f.f.id = true /\ allB (nearDC d a) f.f.xs = true))
 | g :: gs,f,h=>by
  simp only [keepS] at h
  split at h
  ·rename_i hc
   rcases List.mem_cons.1 h with rfl | h
   ·exact ⟨by simp,.inl hc⟩
   ·have:=keepS_ok h;exact ⟨by simp [this.1],this.2⟩
  ·split at h
   ·rename_i hc
    simp only [Bool.and_eq_true,Bool.not_eq_true'] at hc
    rcases List.mem_cons.1 h with rfl | h
    ·exact ⟨by simp,.inr hc⟩
    ·have:=keepS_ok h;exact ⟨by simp [this.1],this.2⟩
   ·have:=keepS_ok h;exact ⟨by simp [this.1],this.2⟩
theorem gok_rowS {E : Ent} {sg : Sig} {κ : Kn} {ρ : Vl} {d : Ds} {w : World} (hm : MOk E sg κ ρ d w) {a b : Nat} (hb : (ρ.a a).1 = (b : Int)) {arr : Array Value} {T T' : List Nat} (h : ∀ f ∈ keepG T T' d.G,f.ok E sg ρ (w.setRow b arr)) : ∀ f ∈ keepS d a T T' d.G,f.ok E sg ρ (w.setRow b arr):=fun f hf=>by
 obtain ⟨h1,h2 | ⟨h2,h3,h4⟩⟩:=keepS_ok hf
 ·exact h f (keepG_mem h1 h2)
 ·have h5:=hm.gok f h1
  unfold Fct.ok at h5 ⊢
  rw [h2] at h5 ⊢
  obtain ⟨vs,h6,h7⟩:=h5
  exact ⟨vs,h6,atomW_sep h7 h3 (fun x hx=>setRow_keep w b x _ hx) (nearL_ok hm hb h4 h6)⟩
theorem MOk.write {E : Ent} {sg : Sig} {κ : Kn} {ρ : Vl} {d : Ds} {w : World} (hm : MOk E sg κ ρ d w) {a b : Nat} {o : Lin} {L : List CS} {xs : List DC} {us : List Value} {cur : Array Value} {t : TF} (ha : a < κ.n) (ho : o.lt κ.n) (h0 : 0 <= o.den ρ.i) (hb : (ρ.a a).1 = (b : Int))
  (hh : w.heap[b]? = some (.cells cur t.1 t.2)) (hs : Sits sg b ((ρ.a a).2 + (o.den ρ.i).toNat) L) (hxs : ∀ x ∈ xs,x.lt κ.n) (hall : All2 (SC.ok (mu sg)) (xs.map (DC.den ρ)) us) (hchk : chkLT L xs κ = true) (hne : us ≠ []) (hsz : (ρ.a a).2 + (o.den ρ.i).toNat + us.length <= cur.size)
  (hW : mayW E.W d a (L.map CS.tag) = true) :
  MOk E sg κ ρ ⟨putC a o L xs ++ keepC d a o L d.memo,d.adr,keepS d a (L.map CS.tag) (oldT E.W d a (L.map CS.tag)) d.G⟩ (w.setRow b (cur.toList.take ((ρ.a a).2 + (o.den ρ.i).toNat + 0) ++ us ++ cur.toList.drop ((ρ.a a).2 + (o.den ρ.i).toNat + 0 + us.length)).toArray):=by
 have hAC:=chkLT_ok hm.kn hchk hall
 have hlen : us.length = L.length:=hAC.len
 have hM : HeapM (mu sg) (fun _=>none) w:=⟨fun _ _ h=>(by cases h),fun _ _ _ _ _ _ _ _ h=>(by cases h),hm.zone,fun _ _ _ _ _ h=>(by cases h)⟩
 have eff:=Eff.zwrite (base:=0) hM hh hs (by omega) (by rw [hlen,List.take_length];exact hAC) hsz hne
 have hget : ∀ x,(cur.toList.take ((ρ.a a).2 + (o.den ρ.i).toNat + 0) ++ us ++ cur.toList.drop ((ρ.a a).2 + (o.den ρ.i).toNat + 0 + us.length)).toArray[x]? = if x < (ρ.a a).2 + (o.den ρ.i).toNat then cur[x]? else if x < (ρ.a a).2 + (o.den ρ.i).toNat + us.length then us[x - ((ρ.a a).2 + (o.den ρ.i).toNat)]? else cur[x]?:=fun x=>splice_cells hsz
 have hrow:=setRow_heap w b cur (cur.toList.take ((ρ.a a).2 + (o.den ρ.i).toNat + 0) ++ us ++ cur.toList.drop ((ρ.a a).2 + (o.den ρ.i).toNat + 0 + us.length)).toArray t.1 t.2 hh
 have hoth : ∀ x,x ≠ b -> (w.setRow b (cur.toList.take ((ρ.a a).2 + (o.den ρ.i).toNat + 0) ++ us ++ cur.toList.drop ((ρ.a a).2 + (o.den ρ.i).toNat + 0 + us.length)).toArray).heap[x]? = w.heap[x]?:=fun x hx=>setRow_keep w b x _ hx
 have hbw : b < w.heap.size:=heap_lt hh
 have hT : ∀ o',(∀ c,sg b o' = some c -> c.tag ∉ L.map CS.tag) -> (cur.toList.take ((ρ.a a).2 + (o.den ρ.i).toNat + 0) ++ us ++ cur.toList.drop ((ρ.a a).2 + (o.den ρ.i).toNat + 0 + us.length)).toArray[o']? = cur[o']?:=fun o' hno=>by
  rw [hget]
  split
  ·rfl
  ·split
   ·rename_i n1 n2
    obtain ⟨c,hc⟩ : ∃ c,L[o' - ((ρ.a a).2 + (o.den ρ.i).toNat)]? = some c:=⟨_,List.getElem?_eq_getElem (by omega)⟩
    have h1:=hs _ c hc
    rw [show (ρ.a a).2 + (o.den ρ.i).toNat + (o' - ((ρ.a a).2 + (o.den ρ.i).toNat)) = o' by omega] at h1
    exact absurd (List.mem_map_of_mem (List.mem_of_getElem? hc)) (hno c h1)
   ·rfl
 have hsz' : (cur.toList.take ((ρ.a a).2 + (o.den ρ.i).toNat + 0) ++ us ++ cur.toList.drop ((ρ.a a).2 + (o.den ρ.i).toNat + 0 + us.length)).toArray.size = cur.size:=by simp;omega
 obtain ⟨hB,hO⟩:=mayW_ok hm hb hW
 refine ⟨hm.kn,eff.zone,Frm.row hm.fr hh hsz' hT hB, ?_, ?_,hm.alt, ?_,hm.young,hm.fresh,fun f hf=>hm.glt f (keepS_ok hf).1,gok_rowS hm hb (gok_row hm hh hsz' hT hO)⟩
 ·intro m hmm
  rcases List.mem_append.1 hmm with h | h
  ·obtain ⟨j,c,x,h1,h2,rfl⟩:=putC_mem h
   exact ⟨ha,Lin.addc_lt ho,hxs x (List.mem_of_getElem? h2)⟩
  ·exact hm.mlt m (keepC_ok h).1
 ·intro m hmm
  rcases List.mem_append.1 hmm with h | h
  ·obtain ⟨j,c,x,h1,h2,rfl⟩:=putC_mem h
   obtain ⟨u,hu,hok⟩:=hall.get j (x.den ρ) (by simp [h2])
   have hj : j < us.length:=(List.getElem?_eq_some_iff.1 hu).1
   have e1 : ((o.addc (j : Int)).den ρ.i).toNat = (o.den ρ.i).toNat + j:=by rw [Lin.addc_den];omega
   refine ⟨by simp only [];rw [Lin.addc_den];omega,b,t,_,u,hb,hrow, ?_, ?_,hok⟩
   ·simp only [e1]
    rw [hget,if_neg (by omega),if_pos (by omega),← hu]
    congr 1
    omega
   ·simp only [e1]
    rw [← Nat.add_assoc];exact hs j c h1
  ·obtain ⟨h1,h2⟩:=keepC_ok h
   obtain ⟨m0,b',t',cur',v,g1,g2,g3,g4,g5⟩:=hm.memo m h1
   by_cases e : b' = b
   ·subst e
    obtain ⟨rfl,rfl⟩:=cells_inj hh g2
    refine ⟨m0,b',t,_,v,g1,hrow, ?_,g4,g5⟩
    rw [hget]
    split
    ·exact g3
    ·split
     ·rename_i n1 n2
      exfalso
      obtain ⟨c,hc⟩ : ∃ c,L[(ρ.a m.a).2 + (m.o.den ρ.i).toNat - ((ρ.a a).2 + (o.den ρ.i).toNat)]? = some c:=⟨_,List.getElem?_eq_getElem (by omega)⟩
      have h3:=hs _ c hc
      rw [show (ρ.a a).2 + (o.den ρ.i).toNat + ((ρ.a m.a).2 + (m.o.den ρ.i).toNat - ((ρ.a a).2 + (o.den ρ.i).toNat)) = (ρ.a m.a).2 + (m.o.den ρ.i).toNat by omega,g4] at h3
      cases h3
      rcases staysC_or h2 with hf | h2 | ⟨e1,h2⟩
      ·exact memN_no hf (List.mem_map_of_mem (List.mem_of_getElem? hc))
      rotate_left
      ·rw [e1] at n1 n2
       have:=offC_ok h2 ρ.i
       omega
      ·rw [Bool.or_eq_true] at h2
       rcases h2 with h2 | h2
       ·have:=apartD_ok hm h2 (by rw [g1];omega) (by rw [hb];omega)
        rw [g1,hb] at this
        exact this rfl
       ·simp only [Bool.and_eq_true] at h2
        obtain ⟨e1,h2⟩:=h2
        have e1:=Nat.eq_of_beq_eq_true e1
        have hd:=isC_den h2.1 ρ.i
        rw [Lin.sub_den] at hd
        rw [e1] at n1 n2
        have h3:=h2.2
        simp only [Bool.or_eq_true,decide_eq_true_eq] at h3
        omega
     ·exact g3
   ·exact ⟨m0,b',t',cur',v,g1,(hoth b' e).trans g2,g3,g4,g5⟩
 ·intro p hp
  simpa [World.setRow] using hm.asz p hp
def storeT (P : Program) (W : Wt) (t : TypeId) (x y : DV) (κ : Kn) (d : Ds) (kk : Kn -> Ds -> DV -> Bool) : Bool:=
 match zpD x,P.info? t,y.cells? with
 | some (a,o,L),some inf,some cs=>match L.take inf.size with
  | L'=>Nat.blt 0 inf.size && (κ.has o && (Nat.beq cs.length inf.size && (chkLT L' cs κ && (mayW W d a (L'.map CS.tag) && kk κ ⟨putC a o L' cs ++ keepC d a o L' d.memo,d.adr,keepS d a (L'.map CS.tag) (oldT W d a (L'.map CS.tag)) d.G⟩ .u))))
 | _,_,_=>false
theorem storeT_ok {E : Ent} {sg : Sig} {P : Program} {t : TypeId} {x y : DV} {κ : Kn} {ρ : Vl} {d : Ds} {w : World} {kk : Kn -> Ds -> DV -> Bool} {u v : Value} (hm : MOk E sg κ ρ d w) (hl : x.lt κ.n) (hly : y.lt κ.n) (hx : (x.den ρ).ok (mu sg) u) (hy : (y.den ρ).ok (mu sg) v) (h : storeT P E.W t x y κ d kk = true) :
  ∃ w',(Instr.storeAt t u v).run P w = .ok () w' /\ GotM E sg κ ρ kk undef w':=by
 unfold storeT at h
 split at h
 ·rename_i a o L inf cs hz hi hc
  have hxe : x = .s (.c (.zp a o L)):=by
   unfold zpD at hz
   split at hz
   ·cases hz;rfl
   ·cases hz
  subst hxe
  simp only [Bool.and_eq_true] at h
  obtain ⟨hpos,h0,hcl,hchk,hW,h⟩:=h
  have h0:=Kn.has_ok hm.kn h0
  have hpos : 0 < inf.size:=by simpa [Nat.blt_eq] using hpos
  have hcl:=Nat.eq_of_beq_eq_true hcl
  obtain ⟨b,hb,rfl,hs⟩:=zp_ok hx
  have hcells:=SV.cells_ok (DV.cells?_den hc ρ) hy
  have hvl : v.cells.toList.length = cs.length:=by rw [hcells.len];simp
  have hne : v.cells.toList ≠ []:=fun e=>by rw [e] at hvl;simp at hvl;omega
  have hLl : (L.take inf.size).length = inf.size:=by
   have:=(chkLT_ok hm.kn hchk hcells).len
   rw [← this,hvl,hcl]
  obtain ⟨cur,tt,hh,hsz,hnf⟩:=sits_room hm.zone (hs.take inf.size) (n:=inf.size) (by omega) (by omega)
  have hst:=run_storeCells_nf P b ((ρ.a a).2 + (o.den ρ.i).toNat) tt v.cells.toList 0 cur w hh (fun j hj=>hnf j (by omega)) (by omega) hcells.one_cell
  have hm':=hm.write hl.1 hl.2 h0 hb hh (hs.take inf.size) (DV.cells?_lt hc hly) hcells hchk hne (by omega) hW
  refine ⟨_, ?_,sg,κ,_,.u,ρ,h,Gr.refl hm.kn,trivial,trivial,Grows.refl _,hm'⟩
  have hsz' : v.cells.size = inf.size:=by rw [← hcl,← hvl];simp
  simp [Instr.storeAt,Instr.sureAddr,storeVar,run_sizeOf' hi,hsz'] at hst ⊢
  exact hst
 ·cases h
end
end Vx
namespace Vx
noncomputable section
open Go Zx
def Now (sg : Sig) (κ : Kn) (ρ : Vl) (y : DV) (z : Value) : Prop:=y.lt κ.n /\ (y.den ρ).ok (mu sg) z
theorem zp_mk {sg : Sig} {ρ : Vl} {a b : Nat} {o : Lin} {L : List CS} {k : Nat} (hb : (ρ.a a).1 = (b : Int)) (hk : k = (ρ.a a).2 + (o.den ρ.i).toNat) (hs : Sits sg b k L) : ((d1 (.zp a o L)).den ρ).ok (mu sg) (.pointer (some ⟨b,k,none⟩)):=by
 subst hk
 simp only [d1,DV.den,D1.den,DC.den]
 rw [if_pos (by omega),hb]
 exact ⟨rfl,hs⟩
def fieldT (P : Program) (s : TypeId) (x : DV) (f : Nat) (κ : Kn) : Option DV:=
 match zpD x,P.underlying s with
 | some (a,o,L),some (.struct fs)=>match fs[f]? with
  | some fd=>match P.info? fd.type with
   | some inf=>if Nat.blt 0 inf.size && κ.has o then some (d1 (.zp a (o.addc fd.offset) ((L.drop fd.offset).take inf.size))) else none
   | none=>none
  | none=>none
 | _,_=>none
theorem zpD_eq {x : DV} {a : Nat} {o : Lin} {L : List CS} (h : zpD x = some (a,o,L)) : x = .s (.c (.zp a o L)):=by
 unfold zpD at h
 split at h
 ·cases h;rfl
 ·cases h
theorem fieldT_ok {sg : Sig} {κ : Kn} {ρ : Vl} {P : Program} {s : TypeId} {x y : DV} {u : Value} {f : Nat} (hκ : κ.Ok ρ) (hl : x.lt κ.n) (hx : (x.den ρ).ok (mu sg) u) (h : fieldT P s x f κ = some y) :
  ∃ z,(∀ w,(Instr.fieldAt s u f).run P w = .ok z w) /\ Now sg κ ρ y z:=by
 unfold fieldT at h
 split at h
 ·rename_i a o L fs hz hu
  have:=zpD_eq hz
  subst this
  obtain ⟨b,hb,rfl,hs⟩:=zp_ok hx
  split at h
  ·rename_i fd hf
   split at h
   ·rename_i inf hi
    split at h
    ·rename_i hc
     cases h
     simp only [Bool.and_eq_true] at hc
     have hz : inf.size ≠ 0:=by have:=hc.1;simp [Nat.blt_eq] at this;omega
     have h0:=Kn.has_ok hκ hc.2
     have e : (ρ.a a).2 + (o.den ρ.i).toNat + fd.offset = (ρ.a a).2 + ((o.addc (fd.offset : Int)).den ρ.i).toNat:=by rw [Lin.addc_den];omega
     refine ⟨.pointer (some ⟨b,(ρ.a a).2 + (o.den ρ.i).toNat + fd.offset,none⟩), ?_,⟨hl.1,Lin.addc_lt hl.2⟩,zp_mk hb e ((hs.drop _).take _)⟩
     simp [Instr.fieldAt,run_underlying hu,hf,Instr.sureAddr,fieldPlace,run_sizeOf' hi,hz,Addr.add_lit']
    ·cases h
   ·cases h
  ·cases h
 ·cases h
def indexT (P : Program) (t : TypeId) (x ix : DV) (κ : Kn) : Option DV:=
 match ix.int? with
 | none=>none
 | some (_,e,c)=>match P.underlying t,x with
  | some (.array len el),.s (.c (.zp a o L))=>match P.info? el with
   | some inf=>if c then (if κ.has o && (decide (0 <= e.c) && decide (e.c < (len : Int))) then some (d1 (.zp a (o.addc ((e.c.toNat * inf.size : Nat) : Int)) ((L.drop (e.c.toNat * inf.size)).take inf.size))) else none)
     else if κ.has o && (κ.has e && (κ.has ((Lin.num ((len : Int) - 1)).sub e) && (Nat.beq (L.take inf.size).length inf.size && perGo (L.take inf.size) len L))) then some (d1 (.zp a (o.add (Lin.mulc (inf.size : Int) e)) (L.take inf.size))) else none
   | none=>none
  | some (.slice el),.s (.c (.zs a o E n _))=>match P.info? el with
   | some inf=>if κ.has o && (κ.has e && (κ.has ((n.sub e).addc (-1)) && Nat.beq E.length inf.size)) then some (d1 (.zp a (o.add (Lin.mulc (inf.size : Int) e)) E)) else none
   | none=>none
  | _,_=>none
theorem mul_nat {s : Nat} {x : Int} (h : 0 <= x) : ((s : Int) * x).toNat = x.toNat * s:=by
 obtain ⟨n,rfl⟩:=Int.eq_ofNat_of_zero_le h
 rw [← Int.natCast_mul,Int.toNat_natCast,Int.toNat_natCast,Nat.mul_comm]
theorem off_nat {s : Nat} {o e : Int} (h0 : 0 <= o) (h : 0 <= e) : (o + (s : Int) * e).toNat = o.toNat + e.toNat * s:=by
 have h1 : 0 <= (s : Int) * e:=Int.mul_nonneg (by omega) h
 rw [Int.toNat_add h0 h1,mul_nat h]
theorem indexT_ok {sg : Sig} {κ : Kn} {ρ : Vl} {P : Program} {t : TypeId} {x ix y : DV} {u v : Value} (hκ : κ.Ok ρ) (hl : x.lt κ.n) (hli : ix.lt κ.n) (hx : (x.den ρ).ok (mu sg) u) (hi : (ix.den ρ).ok (mu sg) v) (h : indexT P t x ix κ = some y) :
  ∃ z,(∀ w,(Instr.indexAt t u v).run P w = .ok z w) /\ Now sg κ ρ y z:=by
 unfold indexT at h
 split at h
 ·cases h
 ·rename_i k e c he
  have hv:=SV.int_ok (DV.int?_den he ρ) hi
  subst hv
  have hel:=DV.int?_lt he hli
  split at h
  ·rename_i len el a o L hu
   obtain ⟨b,hb,rfl,hs⟩:=zp_ok hx
   split at h
   ·rename_i inf hif
    have hrun : 0 <= e.den ρ.i /\ e.den ρ.i < len -> ∀ w,(Instr.indexAt t (.pointer (some ⟨b,(ρ.a a).2 + (o.den ρ.i).toNat,none⟩)) (.int k (e.den ρ.i))).run P w = .ok (.pointer (some ⟨b,(ρ.a a).2 + (o.den ρ.i).toNat + (e.den ρ.i).toNat * inf.size,none⟩)) w:=fun ⟨h0,h1⟩ w=>by
     simp [Instr.indexAt,asIntOf,run_underlying hu,Instr.sureAddr,h0,h1,run_sizeOf' hif,Addr.add_lit']
    split at h
    ·rename_i hc0
     subst hc0
     split at h
     ·rename_i hc
      cases h
      simp only [Bool.and_eq_true,decide_eq_true_eq] at hc
      have h0:=Kn.has_ok hκ hc.1
      have ec:=lit_den he ρ.i
      refine ⟨_,hrun (by rw [ec];exact hc.2),⟨hl.1,Lin.addc_lt hl.2⟩,zp_mk hb ?_ ?_⟩
      ·rw [Lin.addc_den,ec];omega
      ·rw [ec];exact (hs.drop _).take _
     ·cases h
    ·split at h
     ·rename_i hc
      cases h
      simp only [Bool.and_eq_true] at hc
      obtain ⟨c1,c2,c3,c4,c5⟩:=hc
      have h0:=Kn.has_ok hκ c1
      have h1:=Kn.has_ok hκ c2
      have h2:=Kn.has_ok hκ c3
      rw [Lin.sub_den,Lin.num_den] at h2
      refine ⟨_,hrun ⟨h1,by omega⟩,⟨hl.1,Lin.add_lt hl.2 (Lin.mulc_lt hel)⟩,zp_mk hb ?_ ?_⟩
      ·rw [Lin.add_den,Lin.mulc_den,off_nat h0 h1];omega
      ·have:=hs.per c5 (i:=(e.den ρ.i).toNat) (by omega)
       rw [Nat.eq_of_beq_eq_true c4] at this
       exact this
     ·cases h
   ·cases h
  ·rename_i el a o E n cap hu
   obtain ⟨ad,rfl,h3,h4,h5⟩:=zs_den_ok hx
   split at h
   ·rename_i inf hif
    split at h
    ·rename_i hc
     cases h
     simp only [Bool.and_eq_true] at hc
     obtain ⟨c1,c2,c3,c4⟩:=hc
     have h0:=Kn.has_ok hκ c1
     have h1:=Kn.has_ok hκ c2
     have h2:=Kn.has_ok hκ c3
     rw [Lin.addc_den,Lin.sub_den] at h2
     obtain ⟨b,hb,rfl,hs⟩:=h5 (by omega)
     have hlt : e.den ρ.i < (n.den ρ.i).toNat:=by omega
     refine ⟨.pointer (some ⟨b,(ρ.a a).2 + (o.den ρ.i).toNat + (e.den ρ.i).toNat * inf.size,none⟩), ?_,⟨hl.1,Lin.add_lt hl.2.1 (Lin.mulc_lt hel)⟩,zp_mk hb ?_ ?_⟩
     ·have hlt' : e.den ρ.i < max (n.den ρ.i) 0:=by omega
      simp [Instr.indexAt,asIntOf,run_underlying hu,h1,hlt',run_sizeOf' hif,Addr.add_lit']
     ·rw [Lin.add_den,Lin.mulc_den,off_nat h0 h1];omega
     ·rw [← Nat.eq_of_beq_eq_true c4];exact hs _ (by omega)
    ·cases h
   ·cases h
  ·cases h
def bndT (x : Option DV) (df : Lin) : Option Lin:=
 match x with
 | none=>some df
 | some v=>match v.int? with
  | some (_,e,_)=>some e
  | none=>none
def optT (sg : Sig) (ρ : Vl) : Option DV -> Option Value -> Prop
 | none,none=>True
 | some x,some v=>(x.den ρ).ok (mu sg) v
 | _,_=>False
def optLt (n : Nat) : Option DV -> Prop
 | none=>True
 | some x=>x.lt n
theorem bndT_ok {sg : Sig} {ρ : Vl} {P : Program} {w : World} {x : Option DV} {v : Option Value} {df e : Lin} {y : Nat} (hx : optT sg ρ x v) (h : bndT x df = some e) (h0 : 0 <= e.den ρ.i) (h1 : e.den ρ.i <= (y : Int)) :
  (∀ code,v ≠ none -> (match v with | some v=>Instr.sliceBound v y code | none=>pure 0 : Sem Nat).run P w = .ok (e.den ρ.i).toNat w) /\ (v = none -> e = df) /\ (x = none ↔ v = none):=by
 cases x with
 | none=>
  cases v with
  | none=>cases h;exact ⟨fun _ hn=>absurd rfl hn,fun _=>rfl,⟨fun _=>rfl,fun _=>rfl⟩⟩
  | some v=>exact hx.elim
 | some x=>
  cases v with
  | none=>exact hx.elim
  | some v=>
   simp only [bndT] at h
   split at h
   ·rename_i k e' c he
    cases h
    have hv:=SV.int_ok (DV.int?_den he ρ) hx
    subst hv
    exact ⟨fun code _=>by simp [Instr.sliceBound,asIntOf,h0,h1],fun hn=>by simp at hn,⟨fun hn=>by simp at hn,fun hn=>by simp at hn⟩⟩
   ·cases h
theorem bndT_lt {x : Option DV} {df e : Lin} {n : Nat} (h : bndT x df = some e) (hx : optLt n x) (hd : df.lt n) : e.lt n:=by
 cases x with
 | none=>cases h;exact hd
 | some x=>
  simp only [bndT] at h
  split at h
  ·rename_i k e' c he
   cases h
   exact DV.int?_lt he hx
  ·cases h
theorem bounds_ok {sg : Sig} {ρ : Vl} {P : Program} {w : World} {lo hi mx : Option DV} {vl vh vm : Option Value} {len cap : Nat} {el eh em : Lin} {isS : Bool} (hlo : optT sg ρ lo vl) (hhi : optT sg ρ hi vh) (hmx : optT sg ρ mx vm) (dl dh dm : Lin)
  (h1 : bndT lo dl = some el) (h2 : bndT hi dh = some eh) (h3 : bndT mx dm = some em) (hdl : dl.den ρ.i = 0) (hdh : dh.den ρ.i = (len : Int)) (hdm : dm.den ρ.i = (cap : Int)) (hmh : mx.isNone = true \/ hi.isSome = true)
  (k0 : 0 <= el.den ρ.i) (k1 : el.den ρ.i <= eh.den ρ.i) (k2 : eh.den ρ.i <= em.den ρ.i) (k3 : em.den ρ.i <= (cap : Int)) :
  (Instr.sliceBounds isS len cap vl vh vm).run P w = .ok ((el.den ρ.i).toNat,(eh.den ρ.i).toNat,(em.den ρ.i).toNat) w:=by
 obtain ⟨a1,a2,a3⟩:=bndT_ok (P:=P) (w:=w) (y:=(eh.den ρ.i).toNat) hlo h1 k0 (by omega)
 obtain ⟨b1,b2,b3⟩:=bndT_ok (P:=P) (w:=w) (y:=(em.den ρ.i).toNat) hhi h2 (by omega) (by omega)
 obtain ⟨c1,c2,c3⟩:=bndT_ok (P:=P) (w:=w) (y:=cap) hmx h3 (by omega) k3
 unfold Instr.sliceBounds
 cases vm with
 | none=>
  have em0 : (em.den ρ.i).toNat = cap:=by rw [c2 rfl];omega
  cases vh with
  | none=>
   have eh0 : (eh.den ρ.i).toNat = len:=by rw [b2 rfl];omega
   cases vl with
   | none=>
    have el0 : (el.den ρ.i).toNat = 0:=by rw [a2 rfl];omega
    simp [em0,eh0,el0]
   | some v=>
    have a1':=fun c=>a1 c (by simp)
    rw [eh0] at a1'
    simp only [] at a1'
    simp [em0,eh0,a1']
  | some vh=>
   have b1':=fun c=>b1 c (by simp)
   rw [em0] at b1'
   simp only [] at b1'
   cases vl with
   | none=>
    have el0 : (el.den ρ.i).toNat = 0:=by rw [a2 rfl];omega
    simp [em0,el0,b1']
   | some v=>
    have a1':=fun c=>a1 c (by simp)
    simp only [] at a1'
    simp [em0,b1',a1']
 | some vm=>
  have c1':=fun c=>c1 c (by simp)
  simp only [] at c1'
  cases vh with
  | none=>
   rcases hmh with hmh | hmh
   ·cases mx with
    | none=>exact absurd (c3.1 rfl) (by simp)
    | some _=>simp at hmh
   ·cases hi with
    | none=>simp at hmh
    | some _=>exact absurd (b3.2 rfl) (by simp)
  | some vh=>
   have b1':=fun c=>b1 c (by simp)
   simp only [] at b1'
   cases vl with
   | none=>
    have el0 : (el.den ρ.i).toNat = 0:=by rw [a2 rfl];omega
    simp [c1',el0,b1']
   | some v=>
    have a1':=fun c=>a1 c (by simp)
    simp only [] at a1'
    simp [c1',b1',a1']
def sliceT (P : Program) (t : TypeId) (x : DV) (lo hi mx : Option DV) (κ : Kn) : Option DV:=
 if mx.isNone || hi.isSome then
  match P.underlying t,x with
  | some (.array n el),.s (.c (.zp a o L))=>match P.info? el,bndT lo L0,bndT hi (Lin.num n),bndT mx (Lin.num n) with
   | some inf,some l,some h,some m=>if κ.has o && (κ.has l && (κ.has (h.sub l) && (κ.has (m.sub h) && (κ.has ((Lin.num n).sub m) && (Nat.ble n maxLen && (Nat.beq (L.take inf.size).length inf.size && perGo (L.take inf.size) n L))))))
     then some (d1 (.zs a (o.add (Lin.mulc (inf.size : Int) l)) (L.take inf.size) (h.sub l) (m.sub l))) else none
   | _,_,_,_=>none
  | some (.slice el),.s (.c (.zs a o E n c))=>match P.info? el,bndT lo L0,bndT hi n,bndT mx c with
   | some inf,some l,some h,some m=>if κ.has n && (κ.has (c.sub n) && (κ.has o && (κ.has l && (κ.has (h.sub l) && (κ.has (m.sub h) && (κ.has (c.sub m) && Nat.beq E.length inf.size))))))
     then some (d1 (.zs a (o.add (Lin.mulc (inf.size : Int) l)) E (h.sub l) (m.sub l))) else none
   | _,_,_,_=>none
  | some (.slice el),.s (.c .nos)=>match P.info? el,bndT lo L0,bndT hi L0,bndT mx L0 with
   | some inf,some l,some h,some m=>if κ.has l && (κ.has (h.sub l) && (κ.has (m.sub h) && κ.has (L0.sub m))) then some (d1 .nos) else none
   | _,_,_,_=>none
  | _,_=>none
 else none
theorem zs_mk {sg : Sig} {ρ : Vl} {a : Nat} {o n c : Lin} {E : List CS} {ad : Option Addr} {N C : Nat} (hn : N = (n.den ρ.i).toNat) (hc : C = (c.den ρ.i).toNat) (h1 : N <= C) (h2 : C <= maxLen)
  (h : 0 < C -> ∃ b : Nat,(ρ.a a).1 = (b : Int) /\ ad = some ⟨b,(ρ.a a).2 + (o.den ρ.i).toNat,none⟩ /\ ∀ i,i < C -> Sits sg b ((ρ.a a).2 + (o.den ρ.i).toNat + i * E.length) E) : ((d1 (.zs a o E n c)).den ρ).ok (mu sg) (.slice ad N C):=by
 subst hn;subst hc
 simp only [d1,DV.den,D1.den,DC.den]
 rcases Nat.eq_zero_or_pos (c.den ρ.i).toNat with h0 | h0
 ·rw [if_pos (.inr (by omega))]
  exact ⟨ad,rfl,h1,h2,fun hc=>absurd hc (by omega)⟩
 ·obtain ⟨b,hb,h3,h4⟩:=h h0
  rw [if_pos (.inl (by omega)),hb]
  exact ⟨ad,rfl,h1,h2,fun _=>⟨h3,h4⟩⟩
theorem sliceT_ok {sg : Sig} {κ : Kn} {ρ : Vl} {P : Program} {t : TypeId} {x y : DV} {lo hi mx : Option DV} {u : Value} {vl vh vm : Option Value} (hκ : κ.Ok ρ) (hl : x.lt κ.n) (hll : optLt κ.n lo) (hlh : optLt κ.n hi) (hlm : optLt κ.n mx) (hx : (x.den ρ).ok (mu sg) u)
  (hlo : optT sg ρ lo vl) (hhi : optT sg ρ hi vh) (hmx : optT sg ρ mx vm) (h : sliceT P t x lo hi mx κ = some y) : ∃ z,(∀ w,(Instr.sliceAt t u vl vh vm).run P w = .ok z w) /\ Now sg κ ρ y z:=by
 unfold sliceT at h
 split at h
 ·rename_i hmh
  have hmh : mx.isNone = true \/ hi.isSome = true:=by simpa using hmh
  split at h
  ·rename_i n el a o L hu
   obtain ⟨b,hb,rfl,hs⟩:=zp_ok hx
   split at h
   ·rename_i inf l hh m hif h1 h2 h3
    split at h
    ·rename_i hc
     cases h
     simp only [Bool.and_eq_true] at hc
     obtain ⟨c1,c2,c3,c4,c5,c6,c7,c8⟩:=hc
     have k0:=Kn.has_ok hκ c1
     have k1:=Kn.has_ok hκ c2
     have k2:=Kn.has_ok hκ c3
     have k3:=Kn.has_ok hκ c4
     have k4:=Kn.has_ok hκ c5
     simp only [Lin.sub_den,Lin.num_den] at k2 k3 k4
     have hmax:=Nat.le_of_ble_eq_true c6
     have he:=Nat.eq_of_beq_eq_true c7
     have hbd:=fun w : World=>bounds_ok (P:=P) (w:=w) (isS:=false) (len:=n) (cap:=n) hlo hhi hmx L0 (Lin.num n) (Lin.num n) h1 h2 h3 (by simp [L0]) (by simp) (by simp) hmh k1 (by omega) (by omega) (by omega)
     refine ⟨.slice (some (if (m.den ρ.i).toNat = (l.den ρ.i).toNat then ⟨b,(ρ.a a).2 + (o.den ρ.i).toNat,none⟩ else ⟨b,(ρ.a a).2 + (o.den ρ.i).toNat + (l.den ρ.i).toNat * inf.size,none⟩)) ((hh.den ρ.i).toNat - (l.den ρ.i).toNat) ((m.den ρ.i).toNat - (l.den ρ.i).toNat), ?_,⟨hl.1,Lin.add_lt hl.2 (Lin.mulc_lt (bndT_lt h1 hll (Lin.num_lt _ _))),Lin.sub_lt (bndT_lt h2 hlh (Lin.num_lt _ _)) (bndT_lt h1 hll (Lin.num_lt _ _)),Lin.sub_lt (bndT_lt h3 hlm (Lin.num_lt _ _)) (bndT_lt h1 hll (Lin.num_lt _ _))⟩,zs_mk ?_ ?_ ?_ ?_ ?_⟩
     ·simp [Instr.sliceAt,run_underlying hu,Instr.sureAddr,hbd,run_sizeOf' hif,Addr.add_lit']
     ·rw [Lin.sub_den];omega
     ·rw [Lin.sub_den];omega
     ·omega
     ·omega
     ·intro hpos
      refine ⟨b,hb, ?_,fun i hi'=>?_⟩
      ·rw [if_neg (by omega),Lin.add_den,Lin.mulc_den,off_nat k0 k1]
       rw [Nat.add_assoc]
      ·have:=hs.per c8 (i:=(l.den ρ.i).toNat + i) (by omega)
       rw [he] at this ⊢
       rw [Lin.add_den,Lin.mulc_den,off_nat k0 k1]
       rw [show (ρ.a a).2 + ((o.den ρ.i).toNat + (l.den ρ.i).toNat * inf.size) + i * inf.size = (ρ.a a).2 + (o.den ρ.i).toNat + ((l.den ρ.i).toNat + i) * inf.size by rw [Nat.add_mul];omega]
       exact this
    ·cases h
   ·cases h
  ·rename_i el a o E n c hu
   obtain ⟨ad,rfl,g3,g4,g5'⟩:=zs_den_ok hx
   have g5 : Lf _:=⟨g5'⟩
   clear g5'
   split at h
   ·rename_i inf l hh m hif h1 h2 h3
    split at h
    ·rename_i hc
     cases h
     simp only [Bool.and_eq_true] at hc
     obtain ⟨c8,c9,c1,c2,c3,c4,c5,c7⟩:=hc
     have k0:=Kn.has_ok hκ c1
     have k1:=Kn.has_ok hκ c2
     have k2:=Kn.has_ok hκ c3
     have k3:=Kn.has_ok hκ c4
     have k4:=Kn.has_ok hκ c5
     have k5:=Kn.has_ok hκ c8
     have k6:=Kn.has_ok hκ c9
     simp only [Lin.sub_den,Lin.num_den] at k2 k3 k4 k6
     have he:=Nat.eq_of_beq_eq_true c7
     have hbd:=fun w : World=>bounds_ok (P:=P) (w:=w) (isS:=true) (len:=(n.den ρ.i).toNat) (cap:=(c.den ρ.i).toNat) hlo hhi hmx L0 n c h1 h2 h3 (by simp [L0]) (by omega) (by omega) hmh k1 (by omega) (by omega) (by omega)
     refine ⟨.slice (if (m.den ρ.i).toNat = (l.den ρ.i).toNat then ad else ad.map (·.add ((l.den ρ.i).toNat * inf.size))) ((hh.den ρ.i).toNat - (l.den ρ.i).toNat) ((m.den ρ.i).toNat - (l.den ρ.i).toNat), ?_,⟨hl.1,Lin.add_lt hl.2.1 (Lin.mulc_lt (bndT_lt h1 hll (Lin.num_lt _ _))),Lin.sub_lt (bndT_lt h2 hlh hl.2.2.1) (bndT_lt h1 hll (Lin.num_lt _ _)),Lin.sub_lt (bndT_lt h3 hlm hl.2.2.2) (bndT_lt h1 hll (Lin.num_lt _ _))⟩,zs_mk ?_ ?_ ?_ ?_ ?_⟩
     ·simp [Instr.sliceAt,Instr.slice,run_underlying hu,hbd,run_sizeOf' hif]
     ·rw [Lin.sub_den];omega
     ·rw [Lin.sub_den];omega
     ·omega
     ·omega
     ·intro hpos
      obtain ⟨b,hb,rfl,hs⟩:=g5.h (by omega)
      refine ⟨b,hb, ?_,fun i hi'=>?_⟩
      ·rw [if_neg (by omega),Lin.add_den,Lin.mulc_den,off_nat k0 k1]
       simp [Addr.add_lit',Nat.add_assoc]
      ·have:=hs ((l.den ρ.i).toNat + i) (by omega)
       rw [he] at this ⊢
       rw [Lin.add_den,Lin.mulc_den,off_nat k0 k1]
       rw [show (ρ.a a).2 + ((o.den ρ.i).toNat + (l.den ρ.i).toNat * inf.size) + i * inf.size = (ρ.a a).2 + (o.den ρ.i).toNat + ((l.den ρ.i).toNat + i) * inf.size by rw [Nat.add_mul];omega]
       exact this
    ·cases h
   ·cases h
  ·rename_i el hu
   obtain ⟨ad,rfl⟩:=hx
   split at h
   ·rename_i inf l hh m hif h1 h2 h3
    split at h
    ·rename_i hc
     cases h
     simp only [Bool.and_eq_true] at hc
     obtain ⟨c1,c2,c3,c4⟩:=hc
     have k1:=Kn.has_ok hκ c1
     have k2:=Kn.has_ok hκ c2
     have k3:=Kn.has_ok hκ c3
     have k4:=Kn.has_ok hκ c4
     simp only [Lin.sub_den,L0,Lin.num_den] at k2 k3 k4
     have hbd:=fun w : World=>bounds_ok (P:=P) (w:=w) (isS:=true) (len:=0) (cap:=0) hlo hhi hmx L0 L0 L0 h1 h2 h3 (by simp [L0]) (by simp [L0]) (by simp [L0]) hmh k1 (by omega) (by omega) (by simp;omega)
     have z1 : (l.den ρ.i).toNat = 0:=by omega
     have z2 : (hh.den ρ.i).toNat = 0:=by omega
     have z3 : (m.den ρ.i).toNat = 0:=by omega
     simp only [z1,z2,z3] at hbd
     refine ⟨.slice ad 0 0, ?_,trivial,⟨ad,rfl⟩⟩
     simp [Instr.sliceAt,Instr.slice,run_underlying hu,hbd,run_sizeOf' hif]
    ·cases h
   ·cases h
  ·cases h
 ·cases h
end
end Vx
namespace Vx
noncomputable section
open Go Zx
def constDC : Value -> Option DC
 | .int k n=>some (.num k n)
 | .bool b=>some (.tru b)
 | .string z=>some (.strL z)
 | .pointer none=>some .nil
 | .slice none 0 0=>some .nos
 | .func (.func f) ⟨[]⟩ ⟨[]⟩=>some (.fn f)
 | _=>none
theorem constDC_ok {sg : Sig} {ρ : Vl} {n : Nat} {v : Value} {c : DC} (h : constDC v = some c) : c.lt n /\ (c.den ρ).ok (mu sg) v:=by
 unfold constDC at h
 split at h <;> simp at h <;> subst h <;> refine ⟨trivial, ?_⟩ <;> first | rfl | exact ⟨none,rfl⟩
def constDL : List Value -> Option (List DC)
 | []=>some []
 | v :: vs=>match constDC v,constDL vs with
  | some c,some cs=>some (c :: cs)
  | _,_=>none
theorem constDL_ok {sg : Sig} {ρ : Vl} {n : Nat} : ∀ {vs : List Value} {cs : List DC},constDL vs = some cs -> (∀ c ∈ cs,c.lt n) /\ All2 (SC.ok (mu sg)) (cs.map (DC.den ρ)) vs
 | [],cs,h=>by cases h;exact ⟨fun c hc=>(by cases hc),trivial⟩
 | v :: vs,cs,h=>by
  simp only [constDL] at h
  split at h
  ·rename_i c cs' h1 h2
   cases h
   have g1:=constDC_ok (sg:=sg) (ρ:=ρ) (n:=n) h1
   have g2:=constDL_ok (sg:=sg) (ρ:=ρ) (n:=n) h2
   refine ⟨fun x hx=>?_,g1.2,g2.2⟩
   rcases List.mem_cons.1 hx with rfl | hx
   ·exact g1.1
   ·exact g2.1 x hx
  ·cases h
def constDV : Value -> DV
 | .agg cs=>match constDL cs.toList with
  | some l=>.s (.a l)
  | none=>.u
 | v=>match constDC v with
  | some c=>d1 c
  | none=>.u
theorem constDV_ok (sg : Sig) (ρ : Vl) (n : Nat) (v : Value) : (constDV v).lt n /\ ((constDV v).den ρ).ok (mu sg) v:=by
 unfold constDV
 split
 ·rename_i cs
  split
  ·rename_i l hl
   have:=constDL_ok (sg:=sg) (ρ:=ρ) (n:=n) hl
   exact ⟨this.1,cs.toList,by simp,this.2⟩
  ·exact ⟨trivial,trivial⟩
 ·split
  ·rename_i c hc
   exact constDC_ok hc
  ·exact ⟨trivial,trivial⟩
theorem MOk.push {E : Ent} {sg : Sig} {κ : Kn} {ρ : Vl} {d : Ds} {w w' : World} (hm : MOk E sg κ ρ d w) {a : Nat} {arr : Array Value} {t : TypeId} {L : List CS} {N : Nat} (ha : a < κ.n) (hae : ρ.a a = ((w.heap.size : Int),0))
  (hw : w'.heap = w.heap.push (.cells arr t)) (hos : w'.os = w.os) (htp : w'.tape = w.tape) (hou : w'.output = w.output) (hty : ∀ i j c,i < N -> L[j]? = some c -> ∃ u,arr[i * L.length + j]? = some u /\ c.ok sg u) :
  MOk E (zsig sg w.heap.size L N) κ ρ { d with adr:=(a,2) :: d.adr } w':=by
 have hM : HeapM (mu sg) (fun _=>none) w:=⟨fun _ _ h=>(by cases h),fun _ _ _ _ _ _ _ _ h=>(by cases h),hm.zone,fun _ _ _ _ _ h=>(by cases h)⟩
 have eff:=Eff.zrow (base:=0) (sv:=.u) (v:=undef) hM hw hos htp hou hty trivial
 have hg:=zsig_grows hm.zone L N
 have hold : ∀ b,b < w.heap.size -> w'.heap[b]? = w.heap[b]?:=fun b hb=>by rw [hw,Array.getElem?_push,if_neg (by omega)]
 have hsz : w'.heap.size = w.heap.size + 1:=by rw [hw];simp
 refine ⟨hm.kn,eff.zone,⟨by have:=hm.fr.size;omega,hos.trans hm.fr.os,htp.trans hm.fr.tape,hou.trans hm.fr.output,fun b o hb=>?_,fun b hb=>?_⟩,hm.mlt,fun m hmm=>?_,fun p hp=>?_,fun p hp=>?_,fun p hp h1 h0=>?_,fun p hp h2 h0 q hq hlt=>?_,hm.glt,gok_new hm.fr.size hm.gok hg ⟨by show w.heap.size <= _;omega,hos,htp,hou,fun b o hb=>by
  have hb : b < w.heap.size:=hb
  show _ = sg b o
  unfold zsig
  rw [if_neg (by omega)],fun b hb=>.inl (hold b hb)⟩⟩
 ·have:=hm.fr.size
  unfold zsig
  rw [if_neg (by omega)]
  exact hm.fr.sig b o hb
 ·have:=hm.fr.size
  rw [hold b (by omega)]
  exact hm.fr.keep b hb
 ·obtain ⟨m0,b,t',cur,v,g1,g2,g3,g4,g5⟩:=hm.memo m hmm
  exact ⟨m0,b,t',cur,v,g1,(hold b (heap_lt g2)).trans g2,g3,hg _ _ _ g4,SC.ok_ext (mu_ext hg) g5⟩
 ·rcases List.mem_cons.1 hp with rfl | hp
  ·exact ha
  ·exact hm.alt p hp
 ·rcases List.mem_cons.1 hp with rfl | hp
  ·simp only [];rw [hae];simp;omega
  ·have:=hm.asz p hp;omega
 ·rcases List.mem_cons.1 hp with rfl | hp
  ·simp only [];rw [hae];simp only [];have:=hm.fr.size;exact .inl (by omega)
  ·exact hm.young p hp h1 h0
 ·rcases List.mem_cons.1 hp with rfl | hp
  ·rcases List.mem_cons.1 hq with rfl | hq
   ·simp at hlt
   ·have:=hm.asz q hq
    simp only []
    rw [hae]
    simp only []
    omega
  ·rcases List.mem_cons.1 hq with rfl | hq
   ·have:=hm.asz p hp
    simp only []
    rw [hae]
    simp only []
    omega
   ·exact hm.fresh p hp h2 h0 q hq hlt
theorem MOk.puts {E : Ent} {sg : Sig} {κ : Kn} {ρ : Vl} {a b : Nat} {t : TF} {arr : Array Value} {w : World} (hh : w.heap[b]? = some (.cells arr t.1 t.2)) (ha : a < κ.n) (hb : ρ.a a = ((b : Int),0)) : ∀ {L : List CS} {xs : List DC} {us : List Value} {k : Nat} {d : Ds},
  MOk E sg κ ρ d w -> (∀ x ∈ xs,x.lt κ.n) -> All2 (SC.ok (mu sg)) (xs.map (DC.den ρ)) us -> (∀ j c,L[j]? = some c -> sg b (k + j) = some c) -> (∀ (j : Nat) (u : Value),us[j]? = some u -> arr[k + j]? = some u) -> MOk E sg κ ρ { d with memo:=putC a (Lin.num k) L xs ++ d.memo } w
 | [],_,_,_,d,hm,_,_,_,_=>by simpa [putC] using hm
 | _ :: _,[],_,_,d,hm,_,_,_,_=>by simpa [putC] using hm
 | c :: L,x :: xs,u :: us,k,d,hm,hx,hu,hs,hg=>by
  have ih:=MOk.puts hh ha hb (L:=L) (xs:=xs) (us:=us) (k:=k + 1) hm (fun y hy=>hx y (by simp [hy])) hu.2 (fun j c' hj=>by
   have:=hs (j + 1) c' (by simpa using hj)
   rw [show k + 1 + j = k + (j + 1) by omega];exact this) (fun j v hj=>by
   have:=hg (j + 1) v (by simpa using hj)
   rw [show k + 1 + j = k + (j + 1) by omega];exact this)
  have e : (Lin.num (k : Int)).addc 1 = Lin.num ((k + 1 : Nat) : Int):=by simp [Lin.num,Lin.addc]
  simp only [putC,e]
  refine ih.cell (m:=⟨a,Lin.num k,c,x⟩) ⟨ha,Lin.num_lt _ _,hx x (by simp)⟩ ⟨by simp,b,t,arr,u,by simp only [];rw [hb],hh, ?_, ?_,hu.1⟩
  ·simp only [hb,Lin.num_den,Int.toNat_natCast,Nat.zero_add]
   simpa using hg 0 u rfl
  ·simp only [hb,Lin.num_den,Int.toNat_natCast,Nat.zero_add]
   simpa using hs 0 c rfl
 | _ :: _,_ :: _,[],_,_,_,_,hu,_,_=>hu.elim
def relaxC : CS -> CS
 | .ptr g nm _=>.ptr g nm false
 | c=>c
def relaxL (L : List CS) : List CS:=@List.rec CS (fun _=>List CS) [] (fun c _ ih=>relaxC c :: ih) L
def boxG (L : List CS) (cs : List DC) (κ : Kn) (d : Ds) (kk : Kn -> Ds -> DV -> Bool) : Bool:=kk κ.new ⟨putC κ.n L0 L cs ++ d.memo,(κ.n,2) :: d.adr,d.G⟩ (d1 (.zp κ.n L0 L))
def boxT (t : TypeId) (y : Option (List DC)) (κ : Kn) (d : Ds) (kk : Kn -> Ds -> DV -> Bool) : Bool:=
 match y with
 | some cs=>match !(zTab t).isEmpty && chkLT (zTab t) cs κ with
  | true=>boxG (zTab t) cs κ d kk
  | false=>chkLT (relaxL (zTab t)) cs κ && boxG (relaxL (zTab t)) cs κ d kk
 | none=>false
theorem boxG_ok {E : Ent} {sg : Sig} {P : Program} {t : TypeId} {L : List CS} {cs : List DC} {κ : Kn} {ρ : Vl} {d : Ds} {w : World} {kk : Kn -> Ds -> DV -> Bool} {v : Value} (hm : MOk E sg κ ρ d w) (hlt : ∀ c ∈ cs,c.lt κ.n) (hall : All2 (SC.ok (mu sg)) (cs.map (DC.den ρ)) v.cells.toList) (h1 : chkLT L cs κ = true) (h2 : boxG L cs κ d kk = true) :
  ∃ z w',(do pure (.pointer (some (← newVar t v))) : Sem Value).run P w = .ok z w' /\ GotM E sg κ ρ kk z w' /\ Keep w w':=by
 have hAC:=chkLT_ok hm.kn h1 hall
 let ρ':=ρ.seta κ.n ((w.heap.size : Int),0)
 have hae : ρ'.a κ.n = ((w.heap.size : Int),0):=by simp [ρ',Vl.seta]
 have gr : Gr κ κ.new ρ ρ':=Kn.new_gr hm.kn (Vl.seta_agr ρ κ.n _)
 have hm1:=(hm.gr gr).push (w':={ w with heap:=w.heap.push (.cells v.cells t) }) (L:=L) (N:=1) (Nat.lt_succ_self _) hae rfl rfl rfl rfl (fun i j c hi hj=>by
  obtain rfl : i = 0:=by omega
  have hj' : j < v.cells.toList.length:=by rw [hAC.len];exact (List.getElem?_eq_some_iff.1 hj).1
  have hj2 : v.cells.toList[j]? = some v.cells.toList[j]:=List.getElem?_eq_getElem hj'
  exact ⟨v.cells.toList[j],by simp,hAC.get j c _ hj hj2⟩)
 have hg:=zsig_grows hm.zone (L) 1
 have hh : ({ w with heap:=w.heap.push (.cells v.cells t) } : World).heap[w.heap.size]? = some (.cells v.cells t (0,0)):=by simp
 have hall' : All2 (SC.ok (mu (zsig sg w.heap.size (L) 1))) (cs.map (DC.den ρ')) v.cells.toList:=by
  rw [show cs.map (DC.den ρ') = cs.map (DC.den ρ) from List.map_congr_left fun x hx=>(DC.den_eq gr.agr (hlt x hx)).symm]
  exact hall.imp fun _ _=>SC.ok_ext (mu_ext hg)
 have hsits : Sits (zsig sg w.heap.size (L) 1) w.heap.size 0 (L):=by
  have:=zsig_sits (sg:=sg) (b:=w.heap.size) (E:=L) (N:=1) (i:=0) (by omega)
  simpa using this
 have hm2:=MOk.puts (t:=(t,(0,0))) (L:=L) (xs:=cs) (k:=0) hh (Nat.lt_succ_self _) hae hm1 (fun x hx=>DC.lt_mono (Nat.le_succ _) (hlt x hx)) hall' (fun j c hj=>hsits j c hj) (fun j u hj=>by simpa using hj)
 refine ⟨.pointer (some ⟨w.heap.size,0,none⟩),_,by simp [newVar,newRow],⟨_,_,_,_,ρ',h2,gr,⟨Nat.lt_succ_self _,Lin.num_lt _ _⟩, ?_,hg,hm2⟩,Keep.push rfl⟩
 exact zp_mk (by rw [hae]) (by rw [hae];simp [L0]) hsits
theorem boxT_ok {E : Ent} {sg : Sig} {P : Program} {t : TypeId} {y : Option (List DC)} {κ : Kn} {ρ : Vl} {d : Ds} {w : World} {kk : Kn -> Ds -> DV -> Bool} {v : Value} (hm : MOk E sg κ ρ d w) (hy : ∀ cs,y = some cs -> (∀ c ∈ cs,c.lt κ.n) /\ All2 (SC.ok (mu sg)) (cs.map (DC.den ρ)) v.cells.toList) (h : boxT t y κ d kk = true) :
  ∃ z w',(do pure (.pointer (some (← newVar t v))) : Sem Value).run P w = .ok z w' /\ GotM E sg κ ρ kk z w' /\ Keep w w':=by
 unfold boxT at h
 split at h
 ·rename_i cs
  obtain ⟨hlt,hall⟩:=hy cs rfl
  split at h
  ·rename_i hc
   rw [Bool.and_eq_true] at hc
   exact boxG_ok hm hlt hall hc.2 h
  ·rw [Bool.and_eq_true] at h
   exact boxG_ok hm hlt hall h.1 h.2
 ·cases h
def zeroD (P : Program) (t : TypeId) : Option (List DC):=
 match P.info? t with
 | some inf=>match inf.zero with
  | some z=>constDL z.cells.toList
  | none=>none
 | none=>none
def allocT (P : Program) (t : TypeId) (κ : Kn) (d : Ds) (kk : Kn -> Ds -> DV -> Bool) : Bool:=boxT t (zeroD P t) κ d kk
theorem allocT_ok {E : Ent} {sg : Sig} {P : Program} {t : TypeId} {κ : Kn} {ρ : Vl} {d : Ds} {w : World} {kk : Kn -> Ds -> DV -> Bool} (hm : MOk E sg κ ρ d w) (h : allocT P t κ d kk = true) :
  ∃ z w',(Instr.alloc t true (.tuple #[])).run P w = .ok z w' /\ GotM E sg κ ρ kk z w' /\ Keep w w':=by
 unfold allocT at h
 have hz : ∃ cs,zeroD P t = some cs:=by
  cases hz : zeroD P t with
  | none=>rw [hz] at h;simp [boxT] at h
  | some cs=>exact ⟨cs,rfl⟩
 obtain ⟨cs,hz⟩:=hz
 have hz0:=hz
 unfold zeroD at hz
 split at hz
 ·rename_i inf hi
  split at hz
  ·rename_i z hz'
   obtain ⟨x,w',h1,h2⟩:=boxT_ok (P:=P) (v:=z) hm (fun l hl=>by
    rw [hz0] at hl;cases hl
    exact constDL_ok hz) h
   refine ⟨x,w', ?_,h2⟩
   rw [← h1]
   simp [Instr.alloc,zeroValue,typeInfo,hi,hz']
  ·cases hz
 ·cases hz
theorem boxT_ok' {E : Ent} {sg : Sig} {P : Program} {t : TypeId} {y : DV} {κ : Kn} {ρ : Vl} {d : Ds} {w : World} {kk : Kn -> Ds -> DV -> Bool} {v : Value} (hm : MOk E sg κ ρ d w) (hl : y.lt κ.n) (hy : (y.den ρ).ok (mu sg) v) (h : boxT t y.cells? κ d kk = true) :
  ∃ z w',(Instr.box t v).run P w = .ok z w' /\ GotM E sg κ ρ kk z w' /\ Keep w w':=by
 obtain ⟨x,w',h1,h2⟩:=boxT_ok (P:=P) (v:=v) hm (fun l hl'=>⟨DV.cells?_lt hl' hl,SV.cells_ok (DV.cells?_den hl' ρ) hy⟩) h
 exact ⟨x,w',by simpa [Instr.box] using h1,h2⟩
end
end Vx
