/- A part of the proof: lemmas. No condition of its own. -/
import Derived.Test.YtglcgbhhkjebbaaGreatK09
import Derived.Test.YtglcgbhhkjebbaaGreatK12
set_option linter.unusedVariables false
set_option linter.unusedSimpArgs false
namespace Vx
noncomputable section
open Go Zx
def csLT : List CS -> Kn -> Ds -> (Kn -> Ds -> List DC -> Bool) -> Bool
 | [],κ,d,kk=>kk κ d []
 | c :: cs,κ,d,kk=>csT c κ d fun κ' d' x=>csLT cs κ' d' fun κ2 d2 xs=>kk κ2 d2 (x :: xs)
theorem csLT_ok {E : Ent} {sg : Sig} {w : World} : ∀ {L : List CS} {κ : Kn} {ρ : Vl} {d : Ds} {kk : Kn -> Ds -> List DC -> Bool} {vs : List Value},MOk E sg κ ρ d w -> AllC sg L vs -> csLT L κ d kk = true →
  ∃ κ' d' xs ρ',kk κ' d' xs = true /\ Gr κ κ' ρ ρ' /\ (∀ x ∈ xs,x.lt κ'.n) /\ All2 (SC.ok (mu sg)) (xs.map (DC.den ρ')) vs /\ MOk E sg κ' ρ' d' w
 | [],κ,ρ,d,kk,[],hm,_,h=>⟨κ,d,[],ρ,h,Gr.refl hm.kn,fun x hx=>(by cases hx),trivial,hm⟩
 | c :: L,κ,ρ,d,kk,v :: vs,hm,hv,h=>by
  obtain ⟨κ1,d1,x,ρ1,h1,g1,hx,hok,hm1⟩:=csT_ok hm hv.1 h
  obtain ⟨κ2,d2,xs,ρ2,h2,g2,hxs,hall,hm2⟩:=csLT_ok hm1 hv.2 h1
  refine ⟨κ2,d2,x :: xs,ρ2,h2,g1.trans g2,fun y hy=>?_,⟨?_,hall⟩,hm2⟩
  ·rcases List.mem_cons.1 hy with rfl | hy
   ·exact DC.lt_mono g2.le hx
   ·exact hxs y hy
  ·rw [← DC.den_eq g2.agr hx];exact hok
 | [],_,_,_,_,_ :: _,_,hv,_=>hv.elim
 | _ :: _,_,_,_,_,[],_,hv,_=>hv.elim
def chunks (L : List CS) (cs : List DC) (κ : Kn) (s : Nat) : Nat -> Nat -> Bool
 | _,0=>true
 | j,n + 1=>chkLT L ((cs.drop (j * s)).take s) κ && chunks L cs κ s (j + 1) n
theorem chunks_ok {L : List CS} {cs : List DC} {κ : Kn} {s : Nat} : ∀ {n j : Nat},chunks L cs κ s j n = true -> ∀ i,j <= i -> i < j + n -> chkLT L ((cs.drop (i * s)).take s) κ = true
 | 0,j,_,i,h1,h2=>by omega
 | n + 1,j,h,i,h1,h2=>by
  simp only [chunks,Bool.and_eq_true] at h
  by_cases e : i = j
  ·subst e;exact h.1
  ·exact chunks_ok h.2 i (by omega) (by omega)
def mxB (s : ByteArray) : Nat:=s.data.toList.foldl (fun m b=>max m b.toNat) 0
theorem mxB_le {s : ByteArray} {i : Nat} {b : UInt8} (h : s[i]? = some b) : b.toNat <= mxB s:=by
 have gen : ∀ (l : List UInt8) (m : Nat),m <= l.foldl (fun m b=>max m b.toNat) m /\ ∀ b ∈ l,b.toNat <= l.foldl (fun m b=>max m b.toNat) m:=by
  intro l
  induction l with
  | nil=>intro m;exact ⟨Nat.le_refl _,fun b hb=>by cases hb⟩
  | cons a l ih=>
   intro m
   obtain ⟨h1,h2⟩:=ih (max m a.toNat)
   refine ⟨by simp only [List.foldl_cons];omega,fun b hb=>?_⟩
   rcases List.mem_cons.1 hb with rfl | hb
   ·simp only [List.foldl_cons];omega
   ·exact h2 b hb
 refine (gen s.data.toList 0).2 b ?_
 have hb : s.data[i]? = some b:=by
  have : s[i]? = s.data[i]?:=by
   by_cases hi : i < s.size
   ·rw [getElem?_pos s i hi,getElem?_pos s.data i hi];rfl
   ·rw [getElem?_neg s i hi,getElem?_neg s.data i hi]
  rw [← this];exact h
 exact Array.mem_toList_iff.2 (Array.mem_of_getElem? hb)
def mnB (s : ByteArray) : Nat:=s.data.toList.foldl (fun m b=>min m b.toNat) 255
theorem mnB_le {s : ByteArray} {i : Nat} {b : UInt8} (h : s[i]? = some b) : mnB s <= b.toNat:=by
 have gen : ∀ (l : List UInt8) (m : Nat),l.foldl (fun m b=>min m b.toNat) m <= m /\ ∀ b ∈ l,l.foldl (fun m b=>min m b.toNat) m <= b.toNat:=by
  intro l
  induction l with
  | nil=>intro m;exact ⟨Nat.le_refl _,fun b hb=>by cases hb⟩
  | cons a l ih=>
   intro m
   obtain ⟨h1,h2⟩:=ih (min m a.toNat)
   refine ⟨by simp only [List.foldl_cons];omega,fun b hb=>?_⟩
   rcases List.mem_cons.1 hb with rfl | hb
   ·simp only [List.foldl_cons];omega
   ·exact h2 b hb
 refine (gen s.data.toList 255).2 b ?_
 have hb : s.data[i]? = some b:=by
  have : s[i]? = s.data[i]?:=by
   by_cases hi : i < s.size
   ·rw [getElem?_pos s i hi,getElem?_pos s.data i hi];rfl
   ·rw [getElem?_neg s i hi,getElem?_neg s.data i hi]
  rw [← this];exact h
 exact Array.mem_toList_iff.2 (Array.mem_of_getElem? hb)
def litB (s : ByteArray) (e : Lin) : Bool -> Option Nat
 | true=>match s.data.toList[e.c.toNat]? with
  | some b=>some b.toNat
  | none=>none
 | false=>none
def indexA (P : Program) (t : TypeId) (x ix : DV) (κ : Kn) (d : Ds) (kk : Kn -> Ds -> DV -> Bool) : Bool:=
 match ix.int? with
 | none=>false
 | some (_,e,c)=>match P.underlying t,x with
  | some (.array len el),.s (.a cs)=>match P.info? el,P.underlying el with
   | some inf,some td=>match c with
    | true=>decide (0 <= e.c) && (decide (e.c < (len : Int)) && match partD P el cs (e.c.toNat * inf.size) with
     | some y=>kk κ d y
     | none=>false)
    | false=>κ.has e && (κ.has ((Lin.num ((len : Int) - 1)).sub e) && (Nat.beq (zTab el).length inf.size && (chunks (zTab el) cs κ inf.size 0 len && csLT (zTab el) κ d fun κ' d' xs=>match packT (agD td) xs with
     | some y=>kk κ' d' y
     | none=>false)))
   | _,_=>false
  | some .string,.s (.c (.strL s))=>κ.has e && (κ.has ((Lin.num ((s.size : Int) - 1)).sub e) && (match litB s e c with
   | some n=>kk κ d (d1 (.num .u8 n))
   | none=>kk (κ.newC [(Lin.var κ.n).addc (-(mnB s : Int)),(Lin.num (mxB s)).sub (.var κ.n)]) d (d1 (.int .u8 (.var κ.n)))))
  | _,_=>false
theorem indexA_ok {E : Ent} {sg : Sig} {P : Program} {t : TypeId} {x ix : DV} {κ : Kn} {ρ : Vl} {d : Ds} {w : World} {kk : Kn -> Ds -> DV -> Bool} {u v : Value} (hm : MOk E sg κ ρ d w) (hl : x.lt κ.n) (hli : ix.lt κ.n) (hx : (x.den ρ).ok (mu sg) u) (hi : (ix.den ρ).ok (mu sg) v) (h : indexA P t x ix κ d kk = true) :
  ∃ z,(∀ w,(Instr.index t u v).run P w = .ok z w) /\ GotM E sg κ ρ kk z w:=by
 have hκ:=hm.kn
 unfold indexA at h
 split at h
 ·cases h
 ·rename_i k e c he
  have hv:=SV.int_ok (DV.int?_den he ρ) hi
  subst hv
  have hel:=DV.int?_lt he hli
  split at h
  ·rename_i len el cs hu
   obtain ⟨vs,rfl,ha⟩:=hx
   split at h
   ·rename_i inf td hif htd
    have hrun : 0 <= e.den ρ.i -> e.den ρ.i < (len : Int) -> ∀ z w0,(part el vs.toArray ((e.den ρ.i).toNat * inf.size)).run P w0 = .ok z w0 -> ∀ w,(Instr.index t (.agg vs.toArray) (.int k (e.den ρ.i))).run P w = .ok z w:=fun h0 h1 z w0 hz w=>by
     have hz':=(Bl.part el vs.toArray ((e.den ρ.i).toNat * inf.size)).run hz w
     simp [Instr.index,asIntOf,run_underlying hu,h0,h1,run_sizeOf' hif,hz']
    split at h
    ·simp only [Bool.and_eq_true,decide_eq_true_eq] at h
     obtain ⟨c0,c1,h⟩:=h
     have ec:=lit_den he ρ.i
     split at h
     ·rename_i y hy
      obtain ⟨g1,g2⟩:=partD_ok hy hl ρ
      obtain ⟨z,sv,q1,q2,q3⟩:=part_ok (w:=w) ha g2.run
      subst q2
      exact ⟨z,hrun (by rw [ec];exact c0) (by rw [ec];exact c1) z w (by rw [ec];exact q1),sg,κ,d,y,ρ,h,Gr.refl hκ,g1,q3,Grows.refl _,hm⟩
     ·cases h
    ·simp only [Bool.and_eq_true] at h
     obtain ⟨c0,c1,c2,c3,h⟩:=h
     have k0:=Kn.has_ok hκ c0
     have k1:=Kn.has_ok hκ c1
     rw [Lin.sub_den,Lin.num_den] at k1
     have c2:=Nat.eq_of_beq_eq_true c2
     have hin : (e.den ρ.i).toNat < len:=by omega
     have hch:=chunks_ok c3 (e.den ρ.i).toNat (Nat.zero_le _) (by omega)
     have hAC : AllC sg (zTab el) ((vs.drop ((e.den ρ.i).toNat * inf.size)).take inf.size):=chkLT_ok hκ hch (by
      rw [List.map_take,List.map_drop]
      exact (ha.drop _).take _)
     have hlen:=hAC.len
     obtain ⟨κ',d',xs,ρ',q1,q2,q3,q4,q5⟩:=csLT_ok hm hAC h
     split at q1
     ·rename_i y hy
      unfold packT at hy
      split at hy
      ·rename_i hag
       cases hy
       refine ⟨.agg (vs.toArray.extract ((e.den ρ.i).toNat * inf.size) ((e.den ρ.i).toNat * inf.size + inf.size)),hrun k0 (by omega) _ w (by simp [part,run_isAgg htd,hag,run_sizeOf' hif]),sg,κ',d',_,ρ',q1,q2,q3,⟨_, ?_,q4⟩,Grows.refl _,q5⟩
       congr 1
       simp [List.extract_eq_take_drop]
      ·rename_i hag
       split at hy
       ·rename_i c
        cases hy
        obtain ⟨v,hv⟩ : ∃ v,(vs.drop ((e.den ρ.i).toNat * inf.size)).take inf.size = [v]:=by
         match hq : (vs.drop ((e.den ρ.i).toNat * inf.size)).take inf.size,q4 with
         | [v],_=>exact ⟨v,rfl⟩
         | [],q4=>exact q4.elim
         | _ :: _ :: _,q4=>exact q4.2.elim
        rw [hv] at q4
        have hv2 : vs[(e.den ρ.i).toNat * inf.size]? = some v:=by
         have:=congrArg (fun l=>l[0]?) hv
         simp only [List.getElem?_take,List.getElem?_drop] at this
         split at this
         ·simpa using this
         ·simp at this
        exact ⟨v,hrun k0 (by omega) _ w (by simp [part,run_isAgg htd,hag,hv2]),sg,κ',d',_,ρ',q1,q2,q3 c (by simp),q4.1,Grows.refl _,q5⟩
       ·cases hy
     ·cases q1
   ·cases h
  ·rename_i s hu
   have : u = .string s:=hx
   subst this
   simp only [Bool.and_eq_true] at h
   obtain ⟨c0,c1,h⟩:=h
   have k0:=Kn.has_ok hκ c0
   have k1:=Kn.has_ok hκ c1
   rw [Lin.sub_den,Lin.num_den] at k1
   have hin : (e.den ρ.i).toNat < s.size:=by omega
   obtain ⟨b,hb⟩ : ∃ b,s[(e.den ρ.i).toNat]? = some b:=⟨_,getElem?_pos s _ hin⟩
   split at h
   ·rename_i n hn
    cases c with
    | false=>cases hn
    | true=>
     have ec:=lit_den he ρ.i
     rw [ec] at hb
     have e1 : s.data.toList[e.c.toNat]? = some b:=by
      have : s[e.c.toNat]? = s.data[e.c.toNat]?:=by
       by_cases hi : e.c.toNat < s.size
       ·rw [getElem?_pos s _ hi,getElem?_pos s.data _ hi];rfl
       ·rw [getElem?_neg s _ hi,getElem?_neg s.data _ hi]
      rw [Array.getElem?_toList,← this];exact hb
     simp only [litB,e1] at hn
     cases hn
     rw [← ec] at hb
     exact ⟨.int .u8 b.toNat,fun w=>by simp [Instr.index,asIntOf,run_underlying hu,k0,hb],sg,κ,d,_,ρ,h,Gr.refl hκ,trivial,rfl,Grows.refl _,hm⟩
   have hmx:=mxB_le hb
   have hmn:=mnB_le hb
   have g:=newC_gr (x:=(b.toNat : Int)) (cs:=[(Lin.var κ.n).addc (-(mnB s : Int)),(Lin.num (mxB s)).sub (.var κ.n)]) hκ (fun l hl=>by
    simp only [List.mem_cons,List.not_mem_nil,or_false] at hl
    rcases hl with rfl | rfl
    ·exact Lin.addc_lt (var_lt1 _)
    ·exact Lin.sub_lt (Lin.num_lt _ _) (var_lt1 _)) (fun l hl=>by
    simp only [List.mem_cons,List.not_mem_nil,or_false] at hl
    rcases hl with rfl | rfl
    ·rw [Lin.addc_den,new_den];omega
    ·rw [Lin.sub_den,new_den,Lin.num_den];omega)
   refine ⟨.int .u8 b.toNat,fun w=>by simp [Instr.index,asIntOf,run_underlying hu,k0,hb],sg,_,d,_,_,h,g,var_lt1 _, ?_,Grows.refl _,hm.gr g⟩
   show Value.int .u8 _ = .int .u8 _
   rw [new_den]
  ·cases h
def bsD (len : Nat) (E : List CS) (κ : Kn) : List (Nat × DV) -> Bool
 | []=>true
 | (i,x) :: ps=>(match x.cells? with
  | some cs=>Nat.blt i len && chkLT E cs κ
  | none=>false) && bsD len E κ ps
def AllPD (sg : Sig) (ρ : Vl) : List (Nat × DV) -> List (Nat × Value) -> Prop
 | [],[]=>True
 | (i,x) :: xs,(j,v) :: vs=>i = j /\ (x.den ρ).ok (mu sg) v /\ AllPD sg ρ xs vs
 | _,_=>False
theorem bsD_ok {sg : Sig} {ρ : Vl} {len : Nat} {E : List CS} {κ : Kn} (hκ : κ.Ok ρ) : ∀ {ps : List (Nat × DV)} {vs : List (Nat × Value)} {arr : Array Value},AllPD sg ρ ps vs -> RowC sg E len arr.toList -> bsD len E κ ps = true →
  ∃ arr',Instr.fill (fun i=>some (i * E.length,E.length)) arr vs = some arr' /\ RowC sg E len arr'.toList
 | [],[],arr,_,hr,_=>⟨arr,rfl,hr⟩
 | (i,x) :: ps,(i',v) :: vs,arr,ha,hr,h=>by
  obtain ⟨e,hx,ha⟩:=ha
  subst e
  simp only [bsD,Bool.and_eq_true] at h
  obtain ⟨h0,h⟩:=h
  split at h0
  ·rename_i cs hc
   rw [Bool.and_eq_true] at h0
   have hi : i < len:=by simpa [Nat.blt_eq] using h0.1
   have h2 : AllC sg E v.cells.toList:=chkLT_ok hκ h0.2 (SV.cells_ok (DV.cells?_den hc ρ) hx)
   have hvl : v.cells.toList.length = E.length:=h2.len
   have hvs : v.cells.size = E.length:=by simpa using hvl
   have hb : i * E.length + E.length <= len * E.length:=by
    have:=Nat.mul_le_mul_right E.length (show i + 1 <= len from hi)
    rw [Nat.add_mul] at this
    omega
   have hsz : i * E.length + v.cells.size <= arr.size:=by
    have:=hr.1
    rw [Array.length_toList] at this
    rw [this,hvs];exact hb
   have hs:=hr.splice hi h2
   have hf:=foldl_set (i * E.length) v.cells.toList 0 arr (by rw [Nat.add_zero,hvl];omega)
   rw [Nat.add_zero,hvl] at hf
   rw [hvl] at hs
   rw [← hf] at hs
   obtain ⟨arr',g2,g3⟩:=bsD_ok hκ ha hs h
   refine ⟨arr', ?_,g3⟩
   simp only [Instr.fill]
   rw [if_neg (by simp [hvs];omega)]
   have e2 : v.cells.zipIdx.foldl (fun cs (c,j)=>cs.setIfInBounds (i * E.length + j) c) arr = v.cells.toList.zipIdx.foldl (fun cs (c,j)=>cs.setIfInBounds (i * E.length + j) c) arr:=by
    rw [← Array.foldl_toList]
    simp
   rw [e2]
   exact g2
  ·cases h0
 | [],_ :: _,_,ha,_,_=>ha.elim
 | _ :: _,[],_,ha,_,_=>ha.elim
theorem new_slice {En : Ent} {sg : Sig} {κ : Kn} {ρ : Vl} {d : Ds} {w w' : World} {kk : Kn -> Ds -> DV -> Bool} {E : List CS} {n : Lin} {N : Nat} {arr : Array Value} {t : TypeId} (hm : MOk En sg κ ρ d w) (hn : n.lt κ.n) (hN : n.den ρ.i = (N : Int)) (hle : N <= maxLen)
  (hw : w'.heap = w.heap.push (.cells arr t)) (hos : w'.os = w.os) (htp : w'.tape = w.tape) (hou : w'.output = w.output) (hty : ∀ i j c,i < N -> E[j]? = some c -> ∃ u,arr[i * E.length + j]? = some u /\ c.ok sg u)
  (ms : List Cell:=[]) (hms : ∀ q ∈ ms,∃ (i j : Nat) (c : CS) (x : DC) (z : Value),i < N /\ E[j]? = some c /\ q = ⟨κ.n,Lin.num ((i * E.length + j : Nat) : Int),c,x⟩ /\ x.lt κ.n /\ arr[i * E.length + j]? = some z /\ (x.den ρ).ok (mu sg) z)
  (h : kk κ.new ⟨ms ++ d.memo,(κ.n,2) :: d.adr,d.G⟩ (d1 (.zs κ.n L0 E n n)) = true) : GotM En sg κ ρ kk (.slice (some ⟨w.heap.size,0,none⟩) N N) w':=by
 let ρ':=ρ.seta κ.n ((w.heap.size : Int),0)
 have hae : ρ'.a κ.n = ((w.heap.size : Int),0):=by simp [ρ',Vl.seta]
 have gr : Gr κ κ.new ρ ρ':=Kn.new_gr hm.kn (Vl.seta_agr ρ κ.n _)
 have hm1:=(hm.gr gr).push (L:=E) (N:=N) (Nat.lt_succ_self _) hae hw hos htp hou hty
 have hd : n.den ρ'.i = (N : Int):=by rw [← Lin.den_eq gr.agr.i hn];exact hN
 have hm2:=hm1.memos (cs:=ms) fun q hq=>by
  obtain ⟨i0,j,c,x,z,hN0,q1,rfl,q2,q3,q4⟩:=hms q hq
  have hzs:=zsig_sits (sg:=sg) (b:=w.heap.size) (E:=E) (N:=N) (i:=i0) hN0 j c q1
  generalize i0 * E.length + j = o at hzs q3 hq ⊢
  refine ⟨⟨Nat.lt_succ_self _,Lin.num_lt _ _,DC.lt_mono (Nat.le_succ _) q2⟩,by simp,w.heap.size,(t,(0,0)),arr,z,by rw [hae],by rw [hw];simp, ?_, ?_, ?_⟩
  ·rw [hae];simpa using q3
  ·rw [hae]
   simpa using hzs
  ·rw [← DC.den_eq gr.agr q2]
   exact SV.ok_ext (x:=d1 x |>.den ρ) (mu_ext (zsig_grows hm.zone E N)) q4
 refine ⟨_,κ.new,_,_,ρ',h,gr,⟨Nat.lt_succ_self _,Lin.num_lt _ _,lt1 hn,lt1 hn⟩, ?_,zsig_grows hm.zone E N,hm2⟩
 refine zs_mk (by rw [hd];simp) (by rw [hd];simp) (Nat.le_refl _) hle fun hpos=>⟨w.heap.size,by rw [hae],by rw [hae];simp [L0],fun i hi=>?_⟩
 rw [hae]
 simpa [L0] using zsig_sits (sg:=sg) (b:=w.heap.size) (E:=E) hi
def rowM (a : Nat) : List CS -> List DC -> Nat -> List Cell
 | c :: E,x :: xs,j=>⟨a,Lin.num (j : Int),c,x⟩ :: rowM a E xs (j + 1)
 | _,_,_=>[]
theorem rowM_ok {a : Nat} : ∀ {E : List CS} {xs : List DC} {j : Nat} {q : Cell},q ∈ rowM a E xs j -> ∃ (i : Nat) (c : CS) (x : DC),E[i]? = some c /\ xs[i]? = some x /\ q = ⟨a,Lin.num ((j + i : Nat) : Int),c,x⟩
 | [],_,_,_,h=>by simp [rowM] at h
 | _ :: _,[],_,_,h=>by simp [rowM] at h
 | c :: E,x :: xs,j,q,h=>by
  rcases List.mem_cons.1 h with rfl | h
  ·exact ⟨0,c,x,by simp,by simp,by simp⟩
  ·obtain ⟨i,c',x',h1,h2,h3⟩:=rowM_ok h
   exact ⟨i + 1,c',x',by simpa using h1,by simpa using h2,by rw [h3];congr 3;omega⟩
def ordP : Nat -> List (Nat × DV) -> Bool
 | _,[]=>true
 | k,(i,x) :: ps=>Nat.beq i k && ((match x.cells? with | some [_]=>true | _=>false) && ordP (k + 1) ps)
def rowsM (a : Nat) (c : CS) : Nat -> List (Nat × DV) -> List Cell
 | _,[]=>[]
 | k,(_,x) :: ps=>match x.cells? with
  | some [y]=>⟨a,Lin.num (k : Int),c,y⟩ :: rowsM a c (k + 1) ps
  | _=>[]
def bsM (a len : Nat) (E : List CS) (ps : List (Nat × DV)) : List Cell:=match len with
 | 1=>match ps with
  | [(0,x)]=>match x.cells? with
   | some cs=>rowM a E cs 0
   | none=>[]
  | _=>[]
 | _=>match E with
  | [c]=>match ordP 0 ps with
   | true=>rowsM a c 0 ps
   | false=>[]
  | _=>[]
theorem fill_one {E : List CS} {arr arr' : Array Value} {v : Value} (hf : Instr.fill (fun i=>some (i * E.length,E.length)) arr [(0,v)] = some arr') : ∀ (j : Nat) (u : Value),v.cells.toList[j]? = some u -> arr'[j]? = some u:=fun j u hj=>by
 simp only [Instr.fill] at hf
 split at hf
 ·cases hf
 ·rename_i hc
  cases hf
  have hsz : v.cells.size <= arr.size:=by
   simp only [Nat.zero_mul,Nat.zero_add] at hc
   simp only [ne_eq,Bool.or_eq_true,bne_iff_ne,decide_eq_true_eq,not_or] at hc
   omega
  have e2 : v.cells.zipIdx.foldl (fun cs (c,j)=>cs.setIfInBounds (0 * E.length + j) c) arr = v.cells.toList.zipIdx.foldl (fun cs (c,j)=>cs.setIfInBounds (0 * E.length + j) c) arr:=by
   rw [← Array.foldl_toList]
   simp
  rw [e2,← Array.getElem?_toList,foldl_set (0 * E.length) v.cells.toList 0 arr (by simpa using hsz)]
  have hl:=(List.getElem?_eq_some_iff.1 hj).1
  simp only [Nat.zero_mul,Nat.add_zero,List.take_zero,List.nil_append]
  rw [List.getElem?_append_left hl]
  exact hj
theorem fill_cons {place : Nat -> Option (Nat × Nat)} {arr arr' : Array Value} {i : Nat} {v : Value} {vs : List (Nat × Value)} (hf : Instr.fill place arr ((i,v) :: vs) = some arr') (off : Nat) (hp : place i = some (off,v.cells.size)) :
  off + v.cells.size <= arr.size /\ ∃ a1 : Array Value,a1.toList = arr.toList.take off ++ v.cells.toList ++ arr.toList.drop (off + v.cells.size) /\ Instr.fill place a1 vs = some arr':=by
 simp only [Instr.fill,hp] at hf
 split at hf
 ·cases hf
 ·rename_i hc
  have hsz : off + v.cells.size <= arr.size:=by
   simp only [ne_eq,Bool.or_eq_true,bne_iff_ne,decide_eq_true_eq,not_or] at hc
   omega
  refine ⟨hsz,_, ?_,hf⟩
  have e2 : v.cells.zipIdx.foldl (fun cs (c,j)=>cs.setIfInBounds (off + j) c) arr = v.cells.toList.zipIdx.foldl (fun cs (c,j)=>cs.setIfInBounds (off + j) c) arr:=by
   rw [← Array.foldl_toList]
   simp
  rw [e2,foldl_set off v.cells.toList 0 arr (by simpa using hsz)]
  simp
theorem one_cells {sg : Sig} {ρ : Vl} {x : DV} {y : DC} {v : Value} (h : x.cells? = some [y]) (hx : (x.den ρ).ok (mu sg) v) : ∃ z : Value,v.cells.toList = [z] /\ v.cells.size = 1 /\ (y.den ρ).ok (mu sg) z:=by
 have h4:=SV.cells_ok (DV.cells?_den h ρ) hx
 obtain ⟨z,g1,g2⟩:=All2.get h4 0 (y.den ρ) rfl
 have hl:=All2.len h4
 simp only [List.map_cons,List.map_nil,List.length_cons,List.length_nil] at hl
 match hv : v.cells.toList,g1,hl with
 | [z'],g1,_=>
  cases g1
  exact ⟨z,rfl,by rw [← Array.length_toList,hv];rfl,g2⟩
 | [],g1,_=>cases g1
 | _ :: _ :: _,_,hl=>simp at hl
theorem ordP_keeps {sg : Sig} {ρ : Vl} : ∀ {ps : List (Nat × DV)} {vs : List (Nat × Value)} {arr arr' : Array Value} {k : Nat},ordP k ps = true -> AllPD sg ρ ps vs -> Instr.fill (fun i=>some (i * 1,1)) arr vs = some arr' -> ∀ i,i < k -> arr'[i]? = arr[i]?
 | [],[],arr,arr',k,_,_,hf,i,hi=>by cases hf;rfl
 | [],_ :: _,_,_,_,_,ha,_,_,_=>ha.elim
 | _ :: _,[],_,_,_,_,ha,_,_,_=>ha.elim
 | (i0,x) :: ps,(i1,v) :: vs,arr,arr',k,ho,ha,hf,i,hi=>by
  obtain ⟨e,hx,ha⟩:=ha
  simp only [ordP,Bool.and_eq_true] at ho
  obtain ⟨o1,o2,o3⟩:=ho
  have o1:=Nat.eq_of_beq_eq_true o1
  subst e
  subst o1
  split at o2
  ·rename_i y hy
   obtain ⟨z,z1,z2,z3⟩:=one_cells hy hx
   obtain ⟨h1,a1,h2,h3⟩:=fill_cons hf i0 (by rw [z2];simp)
   rw [ordP_keeps o3 ha h3 i (Nat.lt_succ_of_lt hi),← Array.getElem?_toList,h2,List.append_assoc,List.getElem?_append_left (by simp;omega),List.getElem?_take_of_lt hi,Array.getElem?_toList]
  ·cases o2
theorem rowsM_ok {sg : Sig} {ρ : Vl} {a : Nat} {c : CS} : ∀ {ps : List (Nat × DV)} {vs : List (Nat × Value)} {arr arr' : Array Value} {k : Nat},ordP k ps = true -> AllPD sg ρ ps vs -> Instr.fill (fun i=>some (i * 1,1)) arr vs = some arr' -> ∀ {q : Cell},q ∈ rowsM a c k ps →
  ∃ (i : Nat) (x : DC) (z : Value),q = ⟨a,Lin.num (i : Int),c,x⟩ /\ (∃ p ∈ ps,p.1 = i /\ ∀ n,p.2.lt n -> x.lt n) /\ arr'[i]? = some z /\ (x.den ρ).ok (mu sg) z
 | [],_,_,_,_,_,_,_,q,hq=>by cases hq
 | _ :: _,[],_,_,_,_,ha,_,_,_=>ha.elim
 | (i0,x) :: ps,(i1,v) :: vs,arr,arr',k,ho,ha,hf,q,hq=>by
  obtain ⟨e,hx,ha⟩:=ha
  simp only [ordP,Bool.and_eq_true] at ho
  obtain ⟨o1,o2,o3⟩:=ho
  have o1:=Nat.eq_of_beq_eq_true o1
  subst e
  subst o1
  simp only [rowsM] at hq
  split at hq
  ·rename_i y hy
   obtain ⟨z,z1,z2,z3⟩:=one_cells hy hx
   obtain ⟨h1,a1,h2,h3⟩:=fill_cons hf i0 (by rw [z2];simp)
   rcases List.mem_cons.1 hq with rfl | hq
   ·refine ⟨i0,y,z,rfl,⟨_,List.mem_cons_self ..,rfl,fun n hn=>DV.cells?_lt hy hn y (List.mem_singleton.2 rfl)⟩, ?_,z3⟩
    rw [ordP_keeps o3 ha h3 i0 (Nat.lt_succ_self _),← Array.getElem?_toList,h2,z1]
    have hl : (arr.toList.take i0).length = i0:=by simp;omega
    rw [List.append_assoc,List.getElem?_append_right (by omega),hl]
    simp
   ·obtain ⟨i,x',z',g1,⟨p,g2,g3⟩,g4⟩:=rowsM_ok o3 ha h3 hq
    exact ⟨i,x',z',g1,⟨p,List.mem_cons_of_mem _ g2,g3⟩,g4⟩
  ·cases hq
theorem bsM_ok {sg : Sig} {ρ : Vl} {a len : Nat} {E : List CS} {ps : List (Nat × DV)} {vs : List (Nat × Value)} {arr arr' : Array Value} (hl0 : 0 < len) (hin : ∀ p ∈ ps,p.1 < len) (ha : AllPD sg ρ ps vs) (hf : Instr.fill (fun i=>some (i * E.length,E.length)) arr vs = some arr') {q : Cell} (hq : q ∈ bsM a len E ps) :
  ∃ (i j : Nat) (c : CS) (x : DC) (z : Value),i < len /\ E[j]? = some c /\ q = ⟨a,Lin.num ((i * E.length + j : Nat) : Int),c,x⟩ /\ (∃ p ∈ ps,∀ n,p.2.lt n -> x.lt n) /\ arr'[i * E.length + j]? = some z /\ (x.den ρ).ok (mu sg) z:=by
 unfold bsM at hq
 split at hq
 ·split at hq
  ·rename_i x
   split at hq
   ·rename_i cs hcs
    obtain ⟨i,c,y,h1,h2,h3⟩:=rowM_ok hq
    match vs,ha,hf with
    | [(i',v)],ha,hf=>
     obtain ⟨e,hx,_⟩:=ha
     subst e
     have h4:=SV.cells_ok (DV.cells?_den hcs ρ) hx
     obtain ⟨z,g1,g2⟩:=All2.get h4 i (y.den ρ) (by rw [List.getElem?_map,h2];rfl)
     exact ⟨0,i,c,y,z,Nat.one_pos,h1,by rw [h3,Nat.zero_mul],⟨_,List.mem_singleton.2 rfl,fun n hn=>DV.cells?_lt hcs hn y (List.mem_of_getElem? h2)⟩,by rw [Nat.zero_mul,Nat.zero_add];exact fill_one hf i z g1,g2⟩
    | [],ha,_=>exact ha.elim
    | _ :: _ :: _,ha,_=>exact ha.2.2.elim
   ·cases hq
  ·cases hq
 ·split at hq
  ·rename_i c
   split at hq
   ·rename_i ho
    obtain ⟨i,x,z,g1,⟨p,g2,g3,g4⟩,g5,g6⟩:=rowsM_ok ho ha hf hq
    exact ⟨i,0,c,x,z,g3 ▸ hin p g2,rfl,by rw [g1];simp,⟨p,g2,g4⟩,by simpa using g5,g6⟩
   ·cases hq
  ·cases hq
theorem bsD_in {len : Nat} {E : List CS} {κ : Kn} : ∀ {ps : List (Nat × DV)},bsD len E κ ps = true -> ∀ p ∈ ps,p.1 < len
 | [],_,_,hp=>by cases hp
 | (i,x) :: ps,h,p,hp=>by
  simp only [bsD,Bool.and_eq_true] at h
  obtain ⟨h0,h⟩:=h
  rcases List.mem_cons.1 hp with rfl | hp
  ·split at h0
   ·rw [Bool.and_eq_true] at h0
    simpa [Nat.blt_eq] using h0.1
   ·cases h0
  ·exact bsD_in h p hp
def bsT (P : Program) (t : TypeId) (len : Nat) (parts : List (Nat × DV)) (κ : Kn) (d : Ds) (kk : Kn -> Ds -> DV -> Bool) : Bool:=
 match zelem P t with
 | some (el,inf,E)=>match Nat.beq len 0 with
  | true=>match parts with
   | []=>kk κ.new ⟨d.memo,(κ.n,2) :: d.adr,d.G⟩ (d1 .nos)
   | _ :: _=>false
  | false=>Nat.ble (len * inf.size) 16777216 && (bsD len E κ parts && kk κ.new ⟨bsM κ.n len E parts ++ d.memo,(κ.n,2) :: d.adr,d.G⟩ (d1 (.zs κ.n L0 E (Lin.num len) (Lin.num len))))
 | none=>false
theorem bsT_ok {En : Ent} {sg : Sig} {P : Program} {t : TypeId} {len : Nat} {parts : List (Nat × DV)} {κ : Kn} {ρ : Vl} {d : Ds} {w : World} {kk : Kn -> Ds -> DV -> Bool} {vs : Array (Nat × Value)} (hm : MOk En sg κ ρ d w) (hpl : ∀ p ∈ parts,p.2.lt κ.n) (ha : AllPD sg ρ parts vs.toList) (h : bsT P t len parts κ d kk = true) :
  ∃ z w',(Instr.buildSlice t len vs).run P w = .ok z w' /\ GotM En sg κ ρ kk z w' /\ Keep w w':=by
 unfold bsT at h
 split at h
 ·rename_i el inf E hzel
  obtain ⟨hu,hi,_,hEl,hE0,hb0,z,hz,hzero⟩:=zelem_ok hzel
  split at h
  ·rename_i hl
   have hl:=Nat.eq_of_beq_eq_true hl
   subst hl
   split at h
   ·have hvs : vs = #[]:=by
     obtain ⟨vs⟩:=vs
     cases vs with
     | nil=>rfl
     | cons _ _=>exact ha.elim
    subst hvs
    let ρ':=ρ.seta κ.n ((w.heap.size : Int),0)
    have hae : ρ'.a κ.n = ((w.heap.size : Int),0):=by simp [ρ',Vl.seta]
    have gr : Gr κ κ.new ρ ρ':=Kn.new_gr hm.kn (Vl.seta_agr ρ κ.n _)
    have hm1:=(hm.gr gr).push (w':={ w with heap:=w.heap.push (.cells #[] el) }) (arr:=#[]) (t:=el) (L:=E) (N:=0) (Nat.lt_succ_self _) hae rfl rfl rfl rfl (fun i j c hi'=>absurd hi' (Nat.not_lt_zero i))
    refine ⟨.slice (some ⟨w.heap.size,0,none⟩) 0 0,_, ?_,⟨_,κ.new,_,_,ρ',h,gr,trivial,⟨_,rfl⟩,zsig_grows hm.zone E 0,hm1⟩,Keep.push rfl⟩
    have e0 : Array.range 0 = #[]:=by simp [Array.range]
    simp [Instr.buildSlice,run_underlying hu,Go.sizeOf,typeInfo,hi,Instr.fill,newRow,e0]
   ·cases h
  ·rename_i hl
   have hl0 : 0 < len:=by
    rcases Nat.eq_zero_or_pos len with h0 | h0
    ·subst h0;simp at hl
    ·exact h0
   simp only [Bool.and_eq_true] at h
   obtain ⟨c1,c2,h⟩:=h
   have hsm:=Nat.le_of_ble_eq_true c1
   have hzs : z.cells.size = inf.size:=by
    have:=(hzero sg).len
    rw [Array.length_toList] at this
    omega
   have hr0:=made_row (hzero sg) len
   obtain ⟨arr,hf,hr⟩:=bsD_ok hm.kn ha hr0 c2
   have hpos : 0 < len * inf.size:=Nat.mul_pos hl0 hE0
   have hrun:=run_buildSlice (P:=P) w t el len vs arr inf z hu hi hz (by simpa using hsm) (by omega) (by rw [hEl,show len * z.cells.size = len * inf.size by rw [hzs]] at hf;exact hf)
   have hle : len <= maxLen:=by
    have : len <= len * inf.size:=Nat.le_mul_of_pos_right _ hE0
    simp only [maxLen]
    omega
   refine ⟨_,_,hrun,new_slice (N:=len) (t:=el) hm (Lin.num_lt _ _) (by simp) hle rfl rfl rfl rfl (fun i j c' hi' hj=>?_) (bsM κ.n len E parts) (fun q hq=>?_) h,Keep.push rfl⟩
   rotate_left
   ·obtain ⟨i,j,c,x,z,q0,q1,q2,⟨p,hp,q3⟩,q4,q5⟩:=bsM_ok hl0 (bsD_in c2) ha hf hq
    exact ⟨i,j,c,x,z,q0,q1,q2,q3 _ (hpl p hp),q4,q5⟩
   obtain ⟨u,hu',hok⟩:=hr.2 i j c' hi' hj
   exact ⟨u,by rw [← Array.getElem?_toList];exact hu',hok⟩
 ·cases h
def msT (P : Program) (t : TypeId) (x y : DV) (κ : Kn) (d : Ds) (kk : Kn -> Ds -> DV -> Bool) : Bool:=
 match zelem P t,x.int?,y.int? with
 | some (el,inf,E),some (_,n,_),some (_,m,_)=>κ.has n && (κ.has ((Lin.num 1000).sub n) && (n.eqb m && (Nat.ble inf.bytes 64 && kk κ.new ⟨d.memo,(κ.n,2) :: d.adr,d.G⟩ (d1 (.zs κ.n L0 E n n)))))
 | _,_,_=>false
theorem msT_ok {En : Ent} {sg : Sig} {P : Program} {t : TypeId} {x y : DV} {κ : Kn} {ρ : Vl} {d : Ds} {w : World} {kk : Kn -> Ds -> DV -> Bool} {u v : Value} (hm : MOk En sg κ ρ d w) (hl : x.lt κ.n) (hx : (x.den ρ).ok (mu sg) u) (hy : (y.den ρ).ok (mu sg) v) (h : msT P t x y κ d kk = true) :
  ∃ z w',(Instr.makeSlice t u v).run P w = .ok z w' /\ GotM En sg κ ρ kk z w' /\ Keep w w':=by
 unfold msT at h
 split at h
 ·rename_i el inf E k1 n q1 k2 m q2 hzel h1 h2
  obtain ⟨hu,hi,_,hEl,hE0,hb0,z,hz,hzero⟩:=zelem_ok hzel
  simp only [Bool.and_eq_true] at h
  obtain ⟨c0,c1,c2,c3,h⟩:=h
  have n0:=Kn.has_ok hm.kn c0
  have n1:=Kn.has_ok hm.kn c1
  rw [Lin.sub_den,Lin.num_den] at n1
  have c3:=Nat.le_of_ble_eq_true c3
  have:=Lin.eqb_eq c2
  subst this
  obtain rfl:=SV.int_ok (DV.int?_den h1 ρ) hx
  obtain rfl:=SV.int_ok (DV.int?_den h2 ρ) hy
  have hzs : z.cells.size = inf.size:=by
   have:=(hzero sg).len
   rw [Array.length_toList] at this
   omega
  have hmul : (inf.bytes : Int) * (n.den ρ.i) <= 281474976710656:=by
   have : (inf.bytes : Int) * (n.den ρ.i) <= 64 * 1000:=Int.mul_le_mul (by omega) (by omega) n0 (by omega)
   omega
  have hr:=run_make (P:=P) w t el inf _ hu hi hz k1 k2 (n.den ρ.i) (n.den ρ.i) n0 (Int.le_refl _) hmul (by omega)
  have hrow:=made_row (hzero sg) (n.den ρ.i).toNat
  refine ⟨_,_,hr,new_slice (N:=(n.den ρ.i).toNat) (t:=el) hm (DV.int?_lt h1 hl) (by omega) (by simp only [maxLen];omega) rfl rfl rfl rfl (fun i j c' hi' hj=>?_) [] (fun _ hq=>by cases hq) h,Keep.push rfl⟩
  obtain ⟨u,hu',hok⟩:=hrow.2 i j c' hi' hj
  refine ⟨u, ?_,hok⟩
  rw [← hu',← Array.getElem?_toList]
  unfold madeCells
  rw [hzs]
 ·cases h
end
end Vx
namespace Vx
noncomputable section
open Go Zx
def clearT (P : Program) (W : Wt) (t : TypeId) (x : DV) (κ : Kn) (d : Ds) (kk : Kn -> Ds -> DV -> Bool) : Bool:=
 match zelem P t with
 | some (_,_,E)=>match headT E x with
  | some (none,_)=>kk κ d (.t [])
  | some (some (a,_),n)=>κ.has n && (mayW W d a (E.map CS.tag) && kk κ ⟨dropC (E.map CS.tag) d.memo,d.adr,keepG (E.map CS.tag) (oldT W d a (E.map CS.tag)) d.G⟩ (.t []))
  | none=>false
 | none=>false
theorem t0_okD (ρ : Vl) (μ : Mu) : ((DV.t []).den ρ).ok μ (.tuple #[]):=⟨[],rfl,trivial⟩
theorem clearT_ok {En : Ent} {sg : Sig} {P : Program} {t ty : TypeId} {x : DV} {κ : Kn} {ρ : Vl} {d : Ds} {w : World} {kk : Kn -> Ds -> DV -> Bool} {u : Value} (hm : MOk En sg κ ρ d w) (hl : x.lt κ.n) (hx : (x.den ρ).ok (mu sg) u) (h : clearT P En.W t x κ d kk = true) :
  ∃ z w',(Builtin.clear_ #[t] ty #[u]).run P w = .ok z w' /\ GotM En sg κ ρ kk z w':=by
 have ht : (DV.t []).lt κ.n:=fun x hx=>by cases hx
 unfold clearT at h
 split at h
 ·rename_i el inf E hzel
  obtain ⟨hu,hi,_,hEl,hE0,hb0,z,hz,hzero⟩:=zelem_ok hzel
  split at h
  ·rename_i n hh
   obtain ⟨nlt,ad,C,rfl,hNC,hCm,hsome,hnone,hsit⟩:=headT_ok hh hl hx
   have hC:=hnone rfl
   have hn : (n.den ρ.i).toNat = 0:=by omega
   rw [hn]
   refine ⟨.tuple #[],w, ?_,sg,κ,d,_,ρ,h,Gr.refl hm.kn,ht,t0_okD ρ _,Grows.refl _,hm⟩
   cases ad <;> simp [Builtin.clear_,run_underlying hu]
  ·rename_i a o n hh
   simp only [Bool.and_eq_true] at h
   obtain ⟨c0,cW,h⟩:=h
   have n0:=Kn.has_ok hm.kn c0
   obtain ⟨nlt,ad,C,rfl,hNC,hCm,hsome,hnone,hsit⟩:=headT_ok hh hl hx
   obtain ⟨alt,olt,hlies⟩:=hsome a o rfl
   obtain ⟨N,hN⟩:=Int.eq_ofNat_of_zero_le n0
   rw [hN] at hNC ⊢
   simp only [Int.toNat_natCast] at hNC ⊢
   rcases Nat.eq_zero_or_pos N with rfl | hpos
   ·refine ⟨.tuple #[],w, ?_,sg,κ,_,_,ρ,h,Gr.refl hm.kn,ht,t0_okD ρ _,Grows.refl _,hm.drops _ _ _⟩
    cases ad <;> simp [Builtin.clear_,run_underlying hu]
   ·obtain ⟨b,hb,rfl,hsi⟩:=hlies (by omega)
    have hL : Sits sg b ((ρ.a a).2 + (o.den ρ.i).toNat) (List.replicate N E).flatten:=Sits.rep fun i hi'=>hsi i (by omega)
    have hLl : (List.replicate N E).flatten.length = N * inf.size:=by simp [hEl]
    have hrow : RowC sg E N (Builtin.zeroCells z.cells N).toList:=made_row (hzero sg) N
    have hzl : (Builtin.zeroCells z.cells N).toList.length = N * inf.size:=by
     have:=hrow.1
     rw [hEl] at this
     exact this
    have hpos2 : 0 < N * inf.size:=Nat.mul_pos hpos hE0
    obtain ⟨cur,tc,hcur,hsz,hnf⟩:=sits_room hm.zone hL (n:=(Builtin.zeroCells z.cells N).toList.length) (by rw [hLl,hzl];exact Nat.le_refl _) (by omega)
    have hst:=run_storeCells_nf P b ((ρ.a a).2 + (o.den ρ.i).toNat) tc (Builtin.zeroCells z.cells N).toList 0 cur w hcur hnf (by omega) hrow.oneCell
    obtain ⟨hmb,hmo⟩:=mayW_ok hm hb cW
    have hm':=hm.over (us:=(Builtin.zeroCells z.cells N).toList) (T:=E.map CS.tag) hcur hL hrow.flat (fun e=>by rw [e] at hzl;simp at hzl;omega) hsz (fun c hc=>by
     obtain ⟨l,hl1,hl2⟩:=List.mem_flatten.1 hc
     rw [(List.mem_replicate.1 hl1).2] at hl2
     exact List.mem_map_of_mem hl2) hmb hmo
    refine ⟨.tuple #[],_, ?_,sg,κ,_,_,ρ,h,Gr.refl hm.kn,ht,t0_okD ρ _,Grows.refl _,hm'⟩
    obtain ⟨m,rfl⟩ : ∃ m,N = m + 1:=⟨N - 1,by omega⟩
    simp [Builtin.clear_,run_underlying hu,zeroValue,typeInfo,hi,hz] at hst ⊢
    simp [hst]
  ·cases h
 ·cases h
def strT (P : Program) (s t : TypeId) (x : DV) (κ : Kn) (kk : Kn -> DV -> Bool) : Bool:=
 match P.underlying s,P.underlying t with
 | some (.slice el),some .string=>match P.underlying el,zTab el with
  | some (.int .u8),[.int g .u8 lo hi]=>match headT [.int g .u8 lo hi] x with
   | some (_,n)=>κ.has n && kk κ.new (d1 (.str κ.n))
   | none=>false
  | _,_=>false
 | _,_=>false
theorem row_u8 {sg : Sig} {g : Nat} {lo hi : Int} : ∀ {n : Nat} {vs : List Value},RowC sg [.int g .u8 lo hi] n vs -> ∃ M : List Int,vs = valsI .u8 M /\ M.length = n
 | 0,vs,h=>by
  have : vs = []:=List.eq_nil_of_length_eq_zero (by rw [h.1];simp)
  exact ⟨[],by rw [this];rfl,rfl⟩
 | n + 1,[],h=>by have:=h.1;simp at this
 | n + 1,v :: vs,h=>by
  obtain ⟨u,hu,m,hm,_⟩:=h.2 0 0 _ (Nat.succ_pos n) rfl
  simp at hu
  subst hu;subst hm
  have hr : RowC sg [.int g .u8 lo hi] n vs:=by
   refine ⟨by have:=h.1;simp at this ⊢;omega,fun i j c hi hj=>?_⟩
   obtain ⟨u,hu,hok⟩:=h.2 (i + 1) j c (by omega) hj
   refine ⟨u, ?_,hok⟩
   rw [← hu]
   simp only [List.length_cons,List.length_nil]
   rw [show (i + 1) * (0 + 1) + j = (i * (0 + 1) + j) + 1 by omega,List.getElem?_cons_succ]
  obtain ⟨M,rfl,hM⟩:=row_u8 hr
  exact ⟨m :: M,rfl,by simp [hM]⟩
theorem strT_ok {E : Ent} {sg : Sig} {P : Program} {s t : TypeId} {x : DV} {κ : Kn} {ρ : Vl} {d : Ds} {w : World} {kk : Kn -> Ds -> DV -> Bool} {u : Value} (hm : MOk E sg κ ρ d w) (hl : x.lt κ.n) (hx : (x.den ρ).ok (mu sg) u) (h : strT P s t x κ (fun κ' y=>kk κ' d y) = true) :
  ∃ z,(convert s t u).run P w = .ok z w /\ GotM E sg κ ρ kk z w:=by
 unfold strT at h
 split at h
 ·rename_i el hs ht
  split at h
  ·rename_i g lo hi he hz
   split at h
   ·rename_i hd n hh
    rw [Bool.and_eq_true] at h
    have n0:=Kn.has_ok hm.kn h.1
    have hsrc : srcT P s [.int g .u8 lo hi] x = some n:=by simp [srcT,hs,hh]
    obtain ⟨nlt,news,hsr,hrow,_⟩:=srcT_ok (e:=1) (w:=w) rfl hm.zone hsrc hl hx
    obtain ⟨_,ad,C,hu,_⟩:=headT_ok hh hl hx
    obtain ⟨M,rfl,hM⟩:=row_u8 hrow
    rw [← hM] at hsr
    have hr:=run_str el hs ht he ⟨_,_,_,hu⟩ hsr
    have gr:=Kn.new_gr hm.kn (Vl.sets_agr ρ κ.n (strOf M))
    refine ⟨_,hr,sg,_,d,_,_,h.2,gr,Nat.lt_succ_self _, ?_,Grows.refl _,hm.gr gr⟩
    simp [d1,DV.den,D1.den,DC.den,Vl.sets,SV.ok,S1.ok,SC.ok]
   ·cases h
  ·cases h
 ·cases h
def neS : DV -> DV -> Bool
 | .s (.c (.strL s)),.s (.c (.strL z))=>!(Nat.beq s.size z.size)
 | _,_=>false
def strD (P : Program) (op : BinOp) (t : TypeId) (x y : DV) (κ : Kn) (kk : Kn -> DV -> Bool) : Bool:=
 x.isStr && (y.isStr && match P.underlying t with
  | some .string=>match op with
   | .eql=>(neS x y || kk κ tT) && kk κ tF
   | .neq=>(neS x y || kk κ tF) && kk κ tT
   | _=>false
  | _=>false)
theorem isStr_ok {sg : Sig} {ρ : Vl} {x : DV} {u : Value} (h : x.isStr = true) (hx : (x.den ρ).ok (mu sg) u) : ∃ s,u = .string s:=by
 unfold DV.isStr at h
 split at h
 ·exact ⟨_,hx⟩
 ·exact ⟨_,hx⟩
 ·cases h
theorem neS_ok {sg : Sig} {ρ : Vl} {x y : DV} {a b : ByteArray} (h : neS x y = true) (hx : (x.den ρ).ok (mu sg) (.string a)) (hy : (y.den ρ).ok (mu sg) (.string b)) : a ≠ b:=by
 unfold neS at h
 split at h
 ·rename_i s z
  have e1 : Value.string a = .string s:=hx
  have e2 : Value.string b = .string z:=hy
  cases e1;cases e2
  rintro rfl
  rw [Nat.beq_refl] at h
  cases h
 ·cases h
theorem strD_uni {sg : Sig} {κ : Kn} {ρ : Vl} {kk : Kn -> DV -> Bool} {P : Program} {op : BinOp} {t : TypeId} {xo yo : Operand} {x y : DV} {u v : Value} (hκ : κ.Ok ρ) (hu : (x.den ρ).ok (mu sg) u) (hv : (y.den ρ).ok (mu sg) v) (h : strD P op t x y κ kk = true) :
  ∃ z,(∀ w,(do eqGuard op t xo yo u v;Go.binOp op t u v).run P w = .ok z w) /\ GotP sg κ ρ kk z:=by
 simp only [strD,Bool.and_eq_true] at h
 obtain ⟨h1,h2,h⟩:=h
 obtain ⟨a,rfl⟩:=isStr_ok h1 hu
 obtain ⟨b,rfl⟩:=isStr_ok h2 hv
 have hb : (a.toList == b.toList) = decide (a = b):=by
  rw [← beq_toListBytes]
  have:=beqBytes a b
  by_cases hc : a = b
  ·rw [this.2 hc];simp [hc]
  ·have hn : ¬ (a == b) = true:=fun h=>hc (this.1 h)
   simp at hn
   rw [hn];simp [hc]
 split at h
 ·rename_i hut
  split at h
  ·rw [Bool.and_eq_true] at h
   by_cases hc : a = b
   ·have h1 : kk κ tT = true:=by
     have:=h.1
     rw [Bool.or_eq_true] at this
     rcases this with k | k
     ·exact absurd hc (neS_ok k hu hv)
     ·exact k
    refine ⟨.bool true,fun w=>?_,_,_,ρ,h1,Gr.refl hκ,trivial,rfl⟩
    rw [eqGuard_at_string];simp [Go.binOp,Op.stringOp,hb,hc]
   ·refine ⟨.bool false,fun w=>?_,_,_,ρ,h.2,Gr.refl hκ,trivial,rfl⟩
    rw [eqGuard_at_string];simp [Go.binOp,Op.stringOp,hb,hc]
  ·rw [Bool.and_eq_true] at h
   by_cases hc : a = b
   ·have h1 : kk κ tF = true:=by
     have:=h.1
     rw [Bool.or_eq_true] at this
     rcases this with k | k
     ·exact absurd hc (neS_ok k hu hv)
     ·exact k
    refine ⟨.bool false,fun w=>?_,_,_,ρ,h1,Gr.refl hκ,trivial,rfl⟩
    rw [eqGuard_at_string];simp [Go.binOp,Op.stringOp,hb,hc]
   ·refine ⟨.bool true,fun w=>?_,_,_,ρ,h.2,Gr.refl hκ,trivial,rfl⟩
    rw [eqGuard_at_string];simp [Go.binOp,Op.stringOp,hb,hc]
  ·cases h
 ·cases h
end
end Vx
namespace Vx
noncomputable section
open Go Zx
structure Shp where
 n : Nat
 P : List (Nat × DV)
 C : List Lin
 M : List Cell:=[]
 adr : List (Nat × Nat):=[]
 F : List Atom:=[]
 G : List Atom:=[]
structure Shp.Lt (sh : Shp) (m : Nat) : Prop where
 P : ∀ p ∈ sh.P,p.2.lt m
 C : ∀ l ∈ sh.C,l.lt m
 M : ∀ c ∈ sh.M,c.lt m
 adr : ∀ p ∈ sh.adr,p.1 < m
 F : ∀ f ∈ sh.F,f.lt m
 G : ∀ f ∈ sh.G,f.lt m
structure Shp.Holds (sh : Shp) (E : Ent) (sg : Sig) (ρ : Vl) (get : Nat -> Option Value) (w : World) : Prop where
 C : Sat ρ.i sh.C
 P : ∀ p ∈ sh.P,∃ v,get p.1 = some v /\ (p.2.den ρ).ok (mu sg) v
 M : ∀ m ∈ sh.M,m.ok sg ρ w
 asz : ∀ p ∈ sh.adr,(ρ.a p.1).1 < (w.heap.size : Int)
 young : ∀ p ∈ sh.adr,1 <= p.2 -> 0 <= (ρ.a p.1).1 -> E.yg (ρ.a p.1).1
 F : ∀ f ∈ sh.F,f.den ρ
 G : ∀ f ∈ sh.G,f.wok sg ρ w
def ltCaps (n : Nat) : List (Nat × Lin × List CS) -> Bool
 | []=>true
 | p :: ps=>Nat.blt p.1 n && (Tm.ltB n p.2.1.t && ltCaps n ps)
theorem ltCaps_ok {n : Nat} : ∀ {cs : List (Nat × Lin × List CS)},ltCaps n cs = true -> ∀ p ∈ cs,p.1 < n /\ p.2.1.lt n
 | [],_,p,hp=>by cases hp
 | q :: qs,h,p,hp=>by
  simp only [ltCaps,Bool.and_eq_true,Nat.blt_eq] at h
  rcases List.mem_cons.1 hp with rfl | hp
  ·exact ⟨h.1,Tm.ltB_ok h.2.1⟩
  ·exact ltCaps_ok h.2.2 p hp
def DC.ltB (n : Nat) : DC -> Bool
 | .int _ e=>Tm.ltB n e.t
 | .boo _ v=>Nat.blt v n
 | .str v=>Nat.blt v n
 | .zp a o _=>Nat.blt a n && Tm.ltB n o.t
 | .np a v o _=>Nat.blt a n && (Nat.blt v n && Tm.ltB n o.t)
 | .zs a o _ m c=>Nat.blt a n && (Tm.ltB n o.t && (Tm.ltB n m.t && Tm.ltB n c.t))
 | .clo _ cs=>ltCaps n cs
 | _=>true
theorem DC.ltB_ok {n : Nat} {x : DC} (h : x.ltB n = true) : x.lt n:=by
 cases x with
 | int k e=>exact Tm.ltB_ok h
 | boo p v=>show v < n;simpa [DC.ltB,Nat.blt_eq] using h
 | str v=>show v < n;simpa [DC.ltB,Nat.blt_eq] using h
 | zp a o L=>simp only [DC.ltB,Bool.and_eq_true,Nat.blt_eq] at h;exact ⟨h.1,Tm.ltB_ok h.2⟩
 | np a v o L=>simp only [DC.ltB,Bool.and_eq_true,Nat.blt_eq] at h;exact ⟨h.1,h.2.1,Tm.ltB_ok h.2.2⟩
 | zs a o E m c=>simp only [DC.ltB,Bool.and_eq_true,Nat.blt_eq] at h;exact ⟨h.1,Tm.ltB_ok h.2.1,Tm.ltB_ok h.2.2.1,Tm.ltB_ok h.2.2.2⟩
 | clo f cs=>exact ltCaps_ok h
 | _=>trivial
def D1.ltB (n : Nat) : D1 -> Bool
 | .c x=>x.ltB n
 | .a xs=>allB (DC.ltB n) xs
theorem D1.ltB_ok {n : Nat} {x : D1} (h : x.ltB n = true) : x.lt n:=by
 cases x with
 | c x=>exact DC.ltB_ok h
 | a xs=>exact fun c hc=>DC.ltB_ok (allB_ok h c hc)
def DV.ltB (n : Nat) : DV -> Bool
 | .s x=>x.ltB n
 | .t xs=>allB (D1.ltB n) xs
 | .u=>true
theorem DV.ltB_ok {n : Nat} {x : DV} (h : x.ltB n = true) : x.lt n:=by
 cases x with
 | s x=>exact D1.ltB_ok h
 | t xs=>exact fun c hc=>D1.ltB_ok (allB_ok h c hc)
 | u=>trivial
def Cell.ltB (n : Nat) (m : Cell) : Bool:=Nat.blt m.a n && (Tm.ltB n m.o.t && m.v.ltB n)
def Atom.ltB (m : Nat) (f : Atom) : Bool:=allB (fun x=>x.ltB m) f.xs
theorem Atom.ltB_ok {m : Nat} {f : Atom} (h : f.ltB m = true) : f.lt m:=fun x hx=>DC.ltB_ok (allB_ok h x hx)
def Shp.ltB (sh : Shp) (m : Nat) : Bool:=allB (Atom.ltB m) sh.G && (allB (Atom.ltB m) sh.F && (allB (fun p=>p.2.ltB m) sh.P && (allB (fun l=>Tm.ltB m l.t) sh.C && (allB (Cell.ltB m) sh.M && allB (fun p=>Nat.blt p.1 m) sh.adr))))
theorem Shp.ltB_ok {sh : Shp} {m : Nat} (h : sh.ltB m = true) : sh.Lt m:=by
 simp only [Shp.ltB,Bool.and_eq_true] at h
 obtain ⟨hG,hF,h⟩:=h
 refine ⟨fun p hp=>DV.ltB_ok (allB_ok h.1 p hp),fun l hl=>Tm.ltB_ok (allB_ok h.2.1 l hl),fun c hc=>?_,fun p hp=>by simpa [Nat.blt_eq] using allB_ok h.2.2.2 p hp,fun f hf=>Atom.ltB_ok (allB_ok hF f hf),fun f hf=>Atom.ltB_ok (allB_ok hG f hf)⟩
 have:=allB_ok h.2.2.1 c hc
 simp only [Cell.ltB,Bool.and_eq_true,Nat.blt_eq] at this
 exact ⟨this.1,Tm.ltB_ok this.2.1,DC.ltB_ok this.2.2⟩
def findM : List Cell -> Nat -> Lin -> Option Cell
 | [],_,_=>none
 | m :: ms,a,o=>match Nat.beq m.a a && m.o.eqb o with
  | true=>some m
  | false=>findM ms a o
theorem findM_ok : ∀ {ms : List Cell} {a : Nat} {o : Lin} {m : Cell},findM ms a o = some m -> m ∈ ms /\ m.a = a /\ m.o = o
 | [],_,_,_,h=>by simp [findM] at h
 | m :: ms,a,o,x,h=>by
  simp only [findM] at h
  split at h
  ·rename_i e
   cases h
   rw [Bool.and_eq_true] at e
   exact ⟨by simp,Nat.eq_of_beq_eq_true e.1,Lin.eqb_eq e.2⟩
  ·obtain ⟨h1,h2⟩:=findM_ok h
   exact ⟨by simp [h1],h2⟩
def chkP (σ : Sb) (κ : Kn) (get : Nat -> Option DV) (p : Nat × DV) : Bool:=
 match get p.1,p.2.sbs σ with
 | some x,some y=>leDV κ x y
 | _,_=>false
def chkMs (σ : Sb) (κ : Kn) (all : List Cell) : List Cell -> List Cell -> Bool
 | _,[]=>true
 | tl,m :: qs=>gN (σ.av m.a) fun a=>gL (m.o.sbs σ) fun o=>match m.v.sbs σ with
  | some y=>(match findT tl a o with
   | some (x,t)=>x.c.eqb m.c && (leDC κ x.v y && chkMs σ κ all t qs)
   | none=>match findT all a o with
    | some (x,t)=>x.c.eqb m.c && (leDC κ x.v y && chkMs σ κ all t qs)
    | none=>false)
  | none=>false
theorem chkMs_ok {σ : Sb} {κ : Kn} {all : List Cell} : ∀ {qs tl : List Cell},chkMs σ κ all tl qs = true -> (∀ x ∈ tl,x ∈ all) -> ∀ m ∈ qs,∃ x ∈ all,(x.a = σ.av m.a /\ x.o = m.o.sbs σ) /\ x.c.eqb m.c = true /\ ∃ y,m.v.sbs σ = some y /\ leDC κ x.v y = true
 | m :: qs,tl,h,ht,q,hq=>by
  simp only [chkMs,gN_eq,gL_eq] at h
  split at h
  ·rename_i y hy
   have key : ∀ (ms : List Cell) (x : Cell) (t : List Cell),(∀ x ∈ ms,x ∈ all) -> findT ms (σ.av m.a) (m.o.sbs σ) = some (x,t) -> (x.c.eqb m.c && (leDC κ x.v y && chkMs σ κ all t qs)) = true -> ∃ x ∈ all,(x.a = σ.av q.a /\ x.o = q.o.sbs σ) /\ x.c.eqb q.c = true /\ ∃ y,q.v.sbs σ = some y /\ leDC κ x.v y = true:=fun ms x t hms hf hc=>by
    obtain ⟨⟨f1,f2,f3⟩,f4⟩:=findT_ok hf
    simp only [Bool.and_eq_true] at hc
    rcases List.mem_cons.1 hq with rfl | hq
    ·exact ⟨x,hms x f1,⟨f2,f3⟩,hc.1,y,hy,hc.2.1⟩
    ·exact chkMs_ok hc.2.2 (fun z hz=>hms z (f4 z hz)) q hq
   split at h
   ·rename_i x t hf;exact key tl x t ht hf h
   ·split at h
    ·rename_i x t hf;exact key all x t (fun _ h=>h) hf h
    ·cases h
  ·cases h
def chkA (σ : Sb) (d : Ds) (p : Nat × Nat) : Bool:=match p.2 with
 | 0=>Nat.ble 1 (cls d (σ.av p.1))
 | _=>youngD d (σ.av p.1)
def scalD (x : DC) : Bool:=@DC.casesOn (fun _=>Bool) x (fun _ _=>true) (fun _ _=>true) (fun _=>true) (fun _ _=>true) (fun _=>false) (fun _=>false) false false (fun _=>false) (fun _ _ _=>false) (fun _ _ _ _=>false) (fun _ _ _ _ _=>false) (fun _ _=>false)
def valD (ρ : Vl) : DC -> Value
 | .num k n=>.int k n
 | .int k e=>.int k (e.den ρ.i)
 | .tru b=>.bool b
 | .boo p v=>.bool (p == decide (ρ.i v = 1))
 | _=>undef
theorem valD_ok {x : DC} (h : scalD x = true) (ρ : Vl) (μ : Mu) : (x.den ρ).ok μ (valD ρ x):=by
 cases x <;> first | (cases h;done) | rfl
theorem valD_eq {x : DC} (h : scalD x = true) {ρ : Vl} {μ : Mu} {v : Value} (hv : (x.den ρ).ok μ v) : v = valD ρ x:=by
 cases x <;> first | (cases h;done) | exact hv
theorem valsD_ok {ρ : Vl} (μ : Mu) : ∀ {xs : List DC},xs.all scalD = true -> All2 (SC.ok μ) (xs.map (DC.den ρ)) (xs.map (valD ρ))
 | [],_=>trivial
 | x :: xs,h=>by
  simp only [List.all_cons,Bool.and_eq_true] at h
  exact ⟨valD_ok h.1 ρ μ,valsD_ok μ h.2⟩
theorem valsD_eq {ρ : Vl} {μ : Mu} : ∀ {xs : List DC} {vs : List Value},xs.all scalD = true -> All2 (SC.ok μ) (xs.map (DC.den ρ)) vs -> vs = xs.map (valD ρ)
 | [],[],_,_=>rfl
 | [],_ :: _,_,h=>h.elim
 | _ :: _,[],_,h=>h.elim
 | x :: xs,v :: vs,h,hv=>by
  simp only [List.all_cons,Bool.and_eq_true] at h
  rw [valD_eq h.1 hv.1,valsD_eq h.2 hv.2];rfl
def reflId (i : Nat) : Bool:=@Bool.rec (fun _=>Bool) (Nat.beq i 301) true (Nat.beq i 300)
def dropN {α : Type} (n : Nat) (l : List α) : List α:=@Nat.rec (fun _=>List α -> List α) (fun l=>l) (fun _ ih l=>@List.rec α (fun _=>List α) [] (fun _ t _=>ih t) l) n l
theorem dropN_eq {α : Type} : ∀ (n : Nat) (l : List α),dropN n l = l.drop n
 | 0,_=>rfl
 | _ + 1,[]=>rfl
 | n + 1,_ :: l=>by
  show dropN n l = _
  rw [dropN_eq n l];rfl
def sameL : List DC -> List DC -> Bool
 | [],_=>true
 | x :: xs,ys=>match ys with
  | y :: ys=>match x,y with
   | .num _ n,.num _ m=>andR (ibq n m) (sameL xs ys)
   | .int _ e,.int _ f=>andR (e.eqb f) (sameL xs ys)
   | .tru a,.tru b=>andR (a == b) (sameL xs ys)
   | .boo p v,.boo q u=>andR (p == q) (andR (Nat.beq v u) (sameL xs ys))
   | _,_=>false
  | []=>true
def reflF (id : Nat) (ys : List DC) : Bool:=andR (reflId id) (andR (Nat.beq ys.length 78) (andR (ys.all scalD) (sameL ys (dropN 39 ys))))
theorem sameL_get {ρ : Vl} : ∀ {xs ys : List DC},sameL xs ys = true -> ∀ (i : Nat) (x y : DC),xs[i]? = some x -> ys[i]? = some y -> valI (valD ρ x) = valI (valD ρ y) /\ valB (valD ρ x) = valB (valD ρ y)
 | [],_,_,i,x,y,hx,_=>by simp at hx
 | x :: xs,[],_,i,a,b,_,hy=>by simp at hy
 | x :: xs,y :: ys,h,i,a,b,hx,hy=>by
  have key : (valI (valD ρ x) = valI (valD ρ y) /\ valB (valD ρ x) = valB (valD ρ y)) /\ sameL xs ys = true:=by
   unfold sameL at h
   simp only [] at h
   split at h
   ·obtain ⟨h1,h2⟩:=andR_ok h
    exact ⟨by rw [ibq_eq h1];exact ⟨rfl,rfl⟩,h2⟩
   ·obtain ⟨h1,h2⟩:=andR_ok h
    exact ⟨by rw [Lin.eqb_eq h1];exact ⟨rfl,rfl⟩,h2⟩
   ·obtain ⟨h1,h2⟩:=andR_ok h
    exact ⟨by rw [eq_of_beq h1];exact ⟨rfl,rfl⟩,h2⟩
   ·obtain ⟨h1,h⟩:=andR_ok h
    obtain ⟨h2,h3⟩:=andR_ok h
    exact ⟨by rw [eq_of_beq h1,Nat.eq_of_beq_eq_true h2];exact ⟨rfl,rfl⟩,h3⟩
   ·cases h
  cases i with
  | zero=>
   simp only [List.getElem?_cons_zero,Option.some.injEq] at hx hy
   subst hx;subst hy
   exact key.1
  | succ i=>exact sameL_get key.2 i a b (by simpa using hx) (by simpa using hy)
theorem rvAt_same {V W : List Value} {k : Nat} (h : ∀ i,i < 39 -> iAt V (k + i) = iAt W i /\ bAt V (k + i) = bAt W i) : rvAt V k = rvAt W 0:=by
 have h0:=(h 0 (by omega)).2
 rw [Nat.add_zero] at h0
 simp only [rvAt,uAt,lAt,Nat.add_assoc,Nat.reduceAdd,Nat.zero_add,h0,(h 1 (by omega)).2,(h 2 (by omega)).2,(h 3 (by omega)).2,(h 4 (by omega)).2,(h 5 (by omega)).2,(h 6 (by omega)).2,(h 7 (by omega)).2,(h 17 (by omega)).2,(h 38 (by omega)).2,(h 8 (by omega)).1,(h 9 (by omega)).1,(h 10 (by omega)).1,(h 11 (by omega)).1,(h 12 (by omega)).1,(h 13 (by omega)).1,(h 14 (by omega)).1,(h 15 (by omega)).1,(h 16 (by omega)).1,(h 18 (by omega)).1,(h 19 (by omega)).1,(h 20 (by omega)).1,(h 21 (by omega)).1,(h 22 (by omega)).1,(h 23 (by omega)).1,(h 24 (by omega)).1,(h 25 (by omega)).1,(h 26 (by omega)).1,(h 27 (by omega)).1,(h 28 (by omega)).1,(h 29 (by omega)).1,(h 30 (by omega)).1,(h 31 (by omega)).1,(h 32 (by omega)).1,(h 33 (by omega)).1,(h 34 (by omega)).1,(h 35 (by omega)).1,(h 36 (by omega)).1,(h 37 (by omega)).1]
theorem reflF_ok {id : Nat} {ys : List DC} (h : reflF id ys = true) (ρ : Vl) : ∃ vs,(∀ sg,All2 (SC.ok (⟨fun _=>none,sg⟩ : Mu)) (ys.map (DC.den ρ)) vs) /\ atomV id vs:=by
 obtain ⟨h1,h⟩:=andR_ok h
 obtain ⟨h2,h⟩:=andR_ok h
 obtain ⟨h3,h4⟩:=andR_ok h
 refine ⟨ys.map (valD ρ),fun sg=>valsD_ok _ h3, ?_⟩
 have hlen:=Nat.eq_of_beq_eq_true h2
 rw [dropN_eq] at h4
 have get : ∀ i,i < 39 -> iAt (ys.map (valD ρ)) i = iAt (ys.map (valD ρ)) (i + 39) /\ bAt (ys.map (valD ρ)) i = bAt (ys.map (valD ρ)) (i + 39):=fun i hi=>by
  have e1 : ys[i]? = some (ys[i]'(by omega)):=List.getElem?_eq_getElem (by omega)
  have e2 : (ys.drop 39)[i]? = some (ys[i + 39]'(by omega)):=by
   rw [List.getElem?_drop,Nat.add_comm];exact List.getElem?_eq_getElem (by omega)
  have:=sameL_get (ρ:=ρ) h4 i _ _ e1 e2
  have g1 : (ys.map (valD ρ)).getD i undef = valD ρ (ys[i]'(by omega)):=by simp [List.getD,e1]
  have g2 : (ys.map (valD ρ)).getD (i + 39) undef = valD ρ (ys[i + 39]'(by omega)):=by
   have : ys[i + 39]? = some (ys[i + 39]'(by omega)):=List.getElem?_eq_getElem (by omega)
   simp [List.getD,this]
  exact ⟨by unfold iAt;rw [g1,g2];exact this.1,by unfold bAt;rw [g1,g2];exact this.2⟩
 have hr : rvAt (ys.map (valD ρ)) 39 = rvAt (ys.map (valD ρ)) 0:=rvAt_same fun i hi=>by rw [Nat.add_comm 39 i];exact ⟨(get i hi).1.symm,(get i hi).2.symm⟩
 unfold reflId at h1
 cases e : Nat.beq id 300 with
 | true=>
  rw [Nat.eq_of_beq_eq_true e]
  exact .inl hr
 | false=>
  rw [e] at h1
  rw [Nat.eq_of_beq_eq_true h1]
  exact ⟨_,.inl rfl,.inl hr⟩
def chkF (σ : Sb) (κ : Kn) (f : Atom) : Bool:=match sbsL σ f.xs with
 | some ys=>anyR (fun g=>andR (Nat.beq g.id f.id) (leL κ g.xs ys)) κ.F || reflF f.id ys
 | none=>false
theorem chkF_ok {σ : Sb} {κ : Kn} {ρ : Vl} (hκ : κ.Ok ρ) {f : Atom} (h : chkF σ κ f = true) : f.den (σ.app ρ):=by
 unfold chkF at h
 split at h
 ·rename_i ys hys
  rw [Bool.or_eq_true] at h
  rcases h with h | h
  ·rw [anyR_eq,List.any_eq_true] at h
   obtain ⟨g,hg,h⟩:=h
   rw [andR_eq,Bool.and_eq_true] at h
   obtain ⟨vs,h1,h2⟩:=hκ.fact g hg
   refine ⟨vs,fun sg=>(sbsL_ok hys).1 (leL_ok hκ h.2 (h1 sg)), ?_⟩
   rw [← Nat.eq_of_beq_eq_true h.1];exact h2
  ·obtain ⟨vs,h1,h2⟩:=reflF_ok h ρ
   exact ⟨vs,fun sg=>(sbsL_ok hys).1 (h1 sg),h2⟩
 ·cases h
def chkG (σ : Sb) (κ : Kn) (d : Ds) (f : Atom) : Bool:=match sbsL σ f.xs with
 | some ys=>d.G.any fun g=>Nat.beq g.f.id f.id && leL κ g.f.xs ys
 | none=>false
theorem chkG_ok {σ : Sb} {E : Ent} {sg : Sig} {κ : Kn} {ρ : Vl} {d : Ds} {w : World} (hm : MOk E sg κ ρ d w) {f : Atom} (h : chkG σ κ d f = true) : f.wok sg (σ.app ρ) w:=by
 unfold chkG at h
 split at h
 ·rename_i ys hys
  rw [List.any_eq_true] at h
  obtain ⟨g,hg,h⟩:=h
  rw [Bool.and_eq_true] at h
  obtain ⟨vs,h1,h2⟩:=Fct.now hm.fr.size (hm.gok g hg)
  refine ⟨vs,(sbsL_ok hys).1 (leL_ok hm.kn h.2 h1), ?_⟩
  rw [← Nat.eq_of_beq_eq_true h.1];exact h2
 ·cases h
def Shp.chk (sh : Shp) (σ : Sb) (κ : Kn) (d : Ds) (get : Nat -> Option DV) : Bool:=
 allB (chkP σ κ get) sh.P && (allB (fun l=>κ.has (l.sbs σ)) sh.C && (chkMs σ κ d.memo d.memo sh.M && (allB (chkA σ d) sh.adr && (allB (chkF σ κ) sh.F && allB (chkG σ κ d) sh.G))))
theorem Shp.chk_ok {sh : Shp} {σ : Sb} {E : Ent} {sg : Sig} {κ : Kn} {ρ : Vl} {d : Ds} {w : World} {get : Nat -> Option DV} {gv : Nat -> Option Value} (hm : MOk E sg κ ρ d w) (hg : ∀ i x,get i = some x -> ∃ v,gv i = some v /\ (x.den ρ).ok (mu sg) v) (h : sh.chk σ κ d get = true) : sh.Holds E sg (σ.app ρ) gv w:=by
 simp only [Shp.chk,Bool.and_eq_true] at h
 obtain ⟨h1,h2,h3,h4,h5,h6⟩:=h
 refine ⟨fun l hl=>?_,fun p hp=>?_,fun m hmm=>?_,fun p hp=>?_,fun p hp hq h0=>?_,fun f hf=>chkF_ok hm.kn (allB_ok h5 f hf),fun f hf=>chkG_ok hm (allB_ok h6 f hf)⟩
 ·rw [← Lin.sbs_den];exact Kn.has_ok hm.kn (allB_ok h2 l hl)
 ·have:=allB_ok h1 p hp
  unfold chkP at this
  split at this
  ·rename_i x y hx hy
   obtain ⟨v,hv,hok⟩:=hg _ x hx
   exact ⟨v,hv,(DV.sbs_ok hy ρ (mu sg) v).1 (leDV_ok hm.kn this hok)⟩
  ·cases this
 ·obtain ⟨m',f1,⟨f2,f3⟩,he,y,hy,hle⟩:=chkMs_ok h3 (fun _ h=>h) m hmm
  obtain ⟨g0,b,t,cur,v,g1,g2,g3,g4,g5⟩:=hm.memo m' f1
  rw [f2] at g1 g3 g4
  rw [f3,Lin.sbs_den] at g0 g3 g4
  refine ⟨g0,b,t,cur,v,g1,g2,g3, ?_,(DC.sbs_ok hy ρ (mu sg) v).1 (leDC_ok hm.kn hle g5)⟩
  rw [← CS.eqb_eq he];exact g4
 ·have:=allB_ok h4 p hp
  unfold chkA at this
  split at this
  ·obtain ⟨q,m1,_⟩:=cls_ok (n:=0) this
   exact hm.asz _ m1
  ·obtain ⟨q,m1,_⟩:=cls_ok (n:=1) this
   exact hm.asz _ m1
 ·have:=allB_ok h4 p hp
  unfold chkA at this
  split at this
  ·rename_i e;omega
  ·obtain ⟨q,m1,k1⟩:=cls_ok (n:=1) this
   exact hm.young _ m1 k1 h0
def sbsP (σ : Sb) : List (Nat × DV) -> Option (List (Nat × DV))
 | []=>some []
 | p :: ps=>match p.2.sbs σ,sbsP σ ps with
  | some y,some ys=>some ((p.1,y) :: ys)
  | _,_=>none
theorem sbsP_mem {σ : Sb} : ∀ {ps qs : List (Nat × DV)},sbsP σ ps = some qs -> ∀ q ∈ qs,∃ p ∈ ps,p.1 = q.1 /\ p.2.sbs σ = some q.2
 | [],qs,h,q,hq=>by cases h;cases hq
 | p :: ps,qs,h,q,hq=>by
  simp only [sbsP] at h
  split at h
  ·rename_i y ys h1 h2
   cases h
   rcases List.mem_cons.1 hq with rfl | hq
   ·exact ⟨p,by simp,rfl,h1⟩
   ·obtain ⟨p',k1,k2⟩:=sbsP_mem h2 q hq
    exact ⟨p',by simp [k1],k2⟩
  ·cases h
def sbsM (σ : Sb) : List Cell -> Option (List Cell)
 | []=>some []
 | m :: ms=>match m.v.sbs σ,sbsM σ ms with
  | some y,some ys=>some (⟨σ.av m.a,m.o.sbs σ,m.c,y⟩ :: ys)
  | _,_=>none
theorem sbsM_mem {σ : Sb} : ∀ {ms ns : List Cell},sbsM σ ms = some ns -> ∀ q ∈ ns,∃ m ∈ ms,q.a = σ.av m.a /\ q.o = m.o.sbs σ /\ q.c = m.c /\ m.v.sbs σ = some q.v
 | [],qs,h,q,hq=>by cases h;cases hq
 | p :: ps,qs,h,q,hq=>by
  simp only [sbsM] at h
  split at h
  ·rename_i y ys h1 h2
   cases h
   rcases List.mem_cons.1 hq with rfl | hq
   ·exact ⟨p,by simp,rfl,rfl,rfl,h1⟩
   ·obtain ⟨p',k1,k2⟩:=sbsM_mem h2 q hq
    exact ⟨p',by simp [k1],k2⟩
  ·cases h
def sbsF (σ : Sb) : List Atom -> Option (List Atom)
 | []=>some []
 | f :: fs=>match sbsL σ f.xs,sbsF σ fs with
  | some ys,some gs=>some (⟨f.id,ys⟩ :: gs)
  | _,_=>none
theorem sbsF_mem {σ : Sb} : ∀ {fs gs : List Atom},sbsF σ fs = some gs -> ∀ g ∈ gs,∃ f ∈ fs,g.id = f.id /\ sbsL σ f.xs = some g.xs
 | [],gs,h,g,hg=>by cases h;cases hg
 | f :: fs,gs,h,g,hg=>by
  simp only [sbsF] at h
  split at h
  ·rename_i y ys h1 h2
   cases h
   rcases List.mem_cons.1 hg with rfl | hg
   ·exact ⟨f,by simp,rfl,h1⟩
   ·obtain ⟨f',k1,k2⟩:=sbsF_mem h2 g hg
    exact ⟨f',by simp [k1],k2⟩
  ·cases h
theorem keys_no {α : Type} {r v : Nat} (hv : r <= v) {t : Tr α} (h : t.all (fun k _=>Nat.blt k r) = true) : t.get v = none:=by
 cases e : t.get v with
 | none=>rfl
 | some x=>
  have:=Tr.get_all (f:=fun k (_ : α)=>Nat.blt k r) h e
  simp only [Nat.blt_eq] at this
  omega
def Sb.keysB (σ : Sb) (r : Nat) : Bool:=σ.i.all (fun k _=>Nat.blt k r) && (σ.a.all (fun k _=>Nat.blt k r) && σ.s.all (fun k _=>Nat.blt k r))
theorem Sb.mv_new {σ : Sb} {v : Nat} (hv : σ.r <= v) : σ.mv v = v - σ.r + σ.b:=by
 unfold Sb.mv
 split
 ·rename_i e
  have : v < σ.r:=by simpa [Nat.blt_eq] using e
  omega
 ·rfl
theorem Sb.fresh {σ : Sb} {v : Nat} (h : σ.keysB σ.r = true) (hv : σ.r <= v) : σ.iv v = Lin.var (v - σ.r + σ.b) /\ σ.av v = v - σ.r + σ.b /\ σ.sv v = v - σ.r + σ.b:=by
 simp only [Sb.keysB,Bool.and_eq_true] at h
 refine ⟨?_, ?_, ?_⟩
 ·unfold Sb.iv;rw [keys_no hv h.1];simp only [];rw [Sb.mv_new hv]
 ·unfold Sb.av;rw [keys_no hv h.2.1];simp only [];rw [Sb.mv_new hv]
 ·unfold Sb.sv;rw [keys_no hv h.2.2];simp only [];rw [Sb.mv_new hv]
def Shp.enter (sh : Shp) (old : Bool) (σ : Sb) (κ : Kn) (d : Ds) (q : Nat -> Nat) : Option (Kn × Ds × List (Nat × DV)):=
 match sbsP σ sh.P,sbsM σ sh.M,sbsF σ sh.F,sbsF σ sh.G with
 | some ps,some ms,some fs,some gs=>some (⟨κ.n + sh.n,sh.C.map (Lin.sbs σ) ++ κ.C,fs ++ κ.F⟩,⟨ms ++ d.memo,sh.adr.map (fun p=>(σ.av p.1,q p.2)) ++ d.adr,gs.map (Fct.mk old) ++ d.G⟩,ps)
 | _,_,_,_=>none
def Vl.over (ρ ρp : Vl) (n r : Nat) : Vl:=⟨fun x=>if x < n then ρ.i x else ρp.i (x - n + r),fun x=>if x < n then ρ.s x else ρp.s (x - n + r),fun x=>if x < n then ρ.a x else ρp.a (x - n + r),ρ.A⟩
theorem Vl.over_agr (ρ ρp : Vl) (n r : Nat) : Agr n ρ (ρ.over ρp n r):=⟨fun v hv=>by simp [Vl.over,hv],fun v hv=>by simp [Vl.over,hv],fun v hv=>by simp [Vl.over,hv],rfl⟩
theorem over_app {σ : Sb} {ρ ρp : Vl} {κ : Kn} {m : Nat} (hk : σ.keysB σ.r = true) (hb : σ.b = κ.n) (hin : σ.In σ.r κ.n) (hag : Agr σ.r (σ.app ρ) ρp) : Agr m (σ.app (ρ.over ρp κ.n σ.r)) ρp:=by
 have hA:=Vl.over_agr ρ ρp κ.n σ.r
 refine ⟨fun v hv=>?_,fun v hv=>?_,fun v hv=>?_,hag.A⟩
 ·rcases Nat.lt_or_ge v σ.r with h | h
  ·rw [← hag.i v h]
   simp only [Sb.app]
   rw [← Lin.den_eq hA.i (hin.i v h)]
  ·simp only [Sb.app,(Sb.fresh hk h).1,Lin.var_den,hb,Vl.over]
   rw [if_neg (by omega)]
   congr 1;omega
 ·rcases Nat.lt_or_ge v σ.r with h | h
  ·rw [← hag.s v h]
   simp only [Sb.app]
   rw [← hA.s _ (hin.s v h)]
  ·simp only [Sb.app,(Sb.fresh hk h).2.2,hb,Vl.over]
   rw [if_neg (by omega)]
   congr 1;omega
 ·rcases Nat.lt_or_ge v σ.r with h | h
  ·rw [← hag.a v h]
   simp only [Sb.app]
   rw [← hA.a _ (hin.a v h)]
  ·simp only [Sb.app,(Sb.fresh hk h).2.1,hb,Vl.over]
   rw [if_neg (by omega)]
   congr 1;omega
end
end Vx
