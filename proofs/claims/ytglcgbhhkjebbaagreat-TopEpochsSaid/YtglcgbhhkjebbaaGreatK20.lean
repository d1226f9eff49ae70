/- A part of the proof: lemmas. No condition of its own. -/
import Derived.Test.YtglcgbhhkjebbaaGreatK07
import Derived.Test.YtglcgbhhkjebbaaGreatK19
set_option linter.unusedVariables false
set_option linter.unusedSimpArgs false
namespace Zx.Zr
open Go
theorem getD_set {α : Type} (l : List α) (i j : Nat) (v d : α) (h : i < l.length) : (l.set i v).getD j d = if j = i then v else l.getD j d:=by
 simp only [List.getD_eq_getElem?_getD,List.getElem?_set]
 by_cases e : i = j
 ·subst e;simp [h]
 ·have : ¬ j = i:=fun x=>e x.symm
  simp [e,this]
theorem findGo_spec (x : Int) : ∀ (us : List Bool) (az : List Int) (k : Int),us.length = az.length →
  (∃ i : Nat,i < us.length /\ us.getD i false = true /\ az.getD i 0 = x /\ (∀ j,j < i -> us.getD j false = true -> az.getD j 0 ≠ x) /\ findGo k us az x = (k + i,true)) ∨
  ((∀ j,j < us.length -> us.getD j false = true -> az.getD j 0 ≠ x) /\ findGo k us az x = (0,false))
 | [],[],k,_=>.inr ⟨by simp,by simp [findGo]⟩
 | [],_ :: _,k,h=>by simp at h
 | _ :: _,[],k,h=>by simp at h
 | u :: us,a :: az,k,h=>by
  by_cases e : u = true /\ a = x
  ·exact .inl ⟨0,by simp,by simpa using e.1,by simpa using e.2,by simp,by simp [findGo,e]⟩
  ·have ne : u = true -> a ≠ x:=fun h1 h2=>e ⟨h1,h2⟩
   rcases findGo_spec x us az (k + 1) (by simpa using h) with ⟨i,h1,h2,h3,h4,h5⟩ | ⟨h1,h2⟩
   ·refine .inl ⟨i + 1,by simpa using h1,by simpa using h2,by simpa using h3,fun j hj hu=>?_, ?_⟩
    ·cases j with
     | zero=>simpa using ne (by simpa using hu)
     | succ j=>simpa using h4 j (by omega) (by simpa using hu)
    ·simp only [findGo,e,if_false,h5]
     congr 1
     omega
   ·refine .inr ⟨fun j hj hu=>?_,by simp only [findGo,e,if_false,h2]⟩
    cases j with
    | zero=>simpa using ne (by simpa using hu)
    | succ j=>simpa using h1 j (by simpa using hj) (by simpa using hu)
theorem idxGo_spec (v d : Bool) : ∀ (us : List Bool) (k : Int),
  (∃ i : Nat,i < us.length /\ us.getD i d = v /\ (∀ j,j < i -> us.getD j d = !v) /\ idxGo v k us = k + i) \/ ((∀ j,j < us.length -> us.getD j d = !v) /\ idxGo v k us = -1)
 | [],k=>.inr ⟨by simp,by simp [idxGo]⟩
 | u :: us,k=>by
  by_cases e : v = u
  ·exact .inl ⟨0,by simp,by simpa using e.symm,by simp,by simp [idxGo,e]⟩
  ·have e2 : u = !v:=by cases u <;> cases v <;> simp_all
   rcases idxGo_spec v d us (k + 1) with ⟨i,h1,h2,h4,h5⟩ | ⟨h1,h2⟩
   ·refine .inl ⟨i + 1,by simpa using h1,by simpa using h2,fun j hj=>?_, ?_⟩
    ·cases j with
     | zero=>simpa using e2
     | succ j=>simpa using h4 j (by omega)
    ·simp only [idxGo,e,if_false,h5]
     omega
   ·refine .inr ⟨fun j hj=>?_,by simp only [idxGo,e,if_false,h2]⟩
    cases j with
    | zero=>simpa using e2
    | succ j=>simpa using h1 j (by simpa using hj)
def Cd (U : List Bool) (A : List Int) (i : Nat) : Prop:=(U.getD i false = true -> (findGo 0 U A (A.getD i 0)).1 = Int.ofNat i /\ addrB (A.getD i 0) = true) /\ (U.getD i false = false -> A.getD i 0 = 0)
theorem goodGo_iff (U : List Bool) (A : List Int) : ∀ (us : List Bool) (az : List Int) (k : Nat),us.length = az.length -> (∀ i,us.getD i false = U.getD (k + i) false) -> (∀ i,az.getD i 0 = A.getD (k + i) 0) →
  (goodGo U A (Int.ofNat k) us az = true ↔ ∀ i,i < us.length -> Cd U A (k + i))
 | [],_,k,_,_,_=>by simp [goodGo]
 | _ :: _,[],k,h,_,_=>by simp at h
 | u :: us,a :: az,k,h,hu,ha=>by
  have ih:=goodGo_iff U A us az (k + 1) (by simpa using h) (fun i=>by have:=hu (i + 1);simpa [Nat.add_assoc,Nat.add_comm 1] using this) (fun i=>by have:=ha (i + 1);simpa [Nat.add_assoc,Nat.add_comm 1] using this)
  have u0:=hu 0
  have a0:=ha 0
  simp at u0 a0
  have e : (Int.ofNat (k + 1)) = Int.ofNat k + 1:=rfl
  rw [e] at ih
  have hs : (∀ i,i < (u :: us).length -> Cd U A (k + i)) ↔ Cd U A k /\ ∀ i,i < us.length -> Cd U A (k + 1 + i):=by
   constructor
   ·intro hh
    refine ⟨hh 0 (by simp),fun i hi=>?_⟩
    have:=hh (i + 1) (by simpa using hi)
    rw [show k + (i + 1) = k + 1 + i by omega] at this
    exact this
   ·rintro ⟨h0,hh⟩ i hi
    cases i with
    | zero=>exact h0
    | succ i=>
     have:=hh i (by simpa using hi)
     rw [show k + 1 + i = k + (i + 1) by omega] at this
     exact this
  rw [hs,← ih]
  simp only [goodGo,Bool.and_eq_true,Cd,List.getD_eq_getElem?_getD,← u0,← a0]
  cases u <;> simp
def Gd (U : List Bool) (A : List Int) : Prop:=∀ i,i < U.length -> (U.getD i false = true -> addrB (A.getD i 0) = true /\ ∀ j,j < i -> U.getD j false = true -> A.getD j 0 ≠ A.getD i 0) /\ (U.getD i false = false -> A.getD i 0 = 0)
theorem good_iff {U : List Bool} {A : List Int} (h : U.length = A.length) : goodGo U A 0 U A = true ↔ Gd U A:=by
 have g:=goodGo_iff U A U A 0 h (fun i=>by simp) (fun i=>by simp)
 rw [show (Int.ofNat 0) = 0 from rfl] at g
 rw [g]
 simp only [Nat.zero_add]
 refine forall_congr' fun i=>forall_congr' fun hi=>and_congr (forall_congr' fun hu=>?_) Iff.rfl
 rw [and_comm]
 refine and_congr Iff.rfl ?_
 rcases findGo_spec (A.getD i 0) U A 0 h with ⟨m,h1,h2,h3,h4,h5⟩ | ⟨h1,h2⟩
 ·rw [h5]
  constructor
  ·intro e j hj
   have : m = i:=by simp at e;omega
   subst this
   exact h4 j hj
  ·intro hh
   have : ¬ m < i:=fun hm=>hh m hm h2 h3
   have : ¬ i < m:=fun hm=>h4 i hm hu rfl
   have : m = i:=by omega
   simp [this]
 ·exact absurd rfl (h1 i hi hu)
theorem gd_set {U : List Bool} {A : List Int} {x : Int} {i : Nat} (hl : U.length = A.length) (hg : Gd U A) (hi : i < U.length) (hx : addrB x = true) (hn : ∀ j,j < U.length -> U.getD j false = true -> A.getD j 0 ≠ x) : Gd (U.set i true) (A.set i x):=by
 intro k hk
 have hk' : k < U.length:=by simpa using hk
 simp only [getD_set U i _ true false hi,getD_set A i _ x 0 (hl ▸ hi)]
 by_cases e : k = i
 ·subst e
  simp only [if_true]
  refine ⟨fun _=>⟨hx,fun j hj=>?_⟩,fun h=>by cases h⟩
  have : ¬ j = k:=by omega
  simp only [this,if_false]
  exact fun hu=>hn j (by omega) hu
 ·simp only [e,if_false]
  refine ⟨fun hu=>⟨((hg k hk').1 hu).1,fun j hj=>?_⟩,(hg k hk').2⟩
  by_cases e2 : j = i
  ·subst e2
   simp only [if_true]
   intro _ h
   exact hn k hk' hu h.symm
  ·simp only [e2,if_false]
   exact fun huj=>((hg k hk').1 hu).2 j hj huj
theorem gd_clear {U : List Bool} {A : List Int} {i : Nat} (hl : U.length = A.length) (hg : Gd U A) (hi : i < U.length) : Gd (U.set i false) (A.set i 0):=by
 intro k hk
 have hk' : k < U.length:=by simpa using hk
 simp only [getD_set U i _ false false hi,getD_set A i _ 0 0 (hl ▸ hi)]
 by_cases e : k = i
 ·subst e
  simp
 ·simp only [e,if_false]
  refine ⟨fun hu=>⟨((hg k hk').1 hu).1,fun j hj=>?_⟩,(hg k hk').2⟩
  by_cases e2 : j = i
  ·subst e2
   simp
  ·simp only [e2,if_false]
   exact fun huj=>((hg k hk').1 hu).2 j hj huj
theorem take_law {U : List Bool} {A : List Int} (x : Int) (hl : U.length = A.length) :
  ((takeG U A x).2.2 ≠ 0 /\ (takeG U A x).1 = (U,A) /\ (takeG U A x).2.1 = 0 /\ ¬(Gd U A /\ addrB x = true /\ (∀ j,j < U.length -> U.getD j false = true -> A.getD j 0 ≠ x) /\ ∃ j,j < U.length /\ U.getD j false = false)) ∨
  (∃ i : Nat,i < U.length /\ takeG U A x = ((U.set i true,A.set i x),(i : Int),0) /\ U.getD i false = false /\ (∀ j,j < i -> U.getD j false = true) /\ Gd U A /\ addrB x = true /\ ∀ j,j < U.length -> U.getD j false = true -> A.getD j 0 ≠ x):=by
 unfold takeG
 by_cases hg : (goodGo U A 0 U A && addrB x) = true
 ·obtain ⟨g1,g2⟩:=(Bool.and_eq_true _ _ ▸ hg : goodGo U A 0 U A = true /\ addrB x = true)
  have hgd:=(good_iff hl).1 g1
  simp only [hg,if_true]
  rcases findGo_spec x U A 0 hl with ⟨m,h1,h2,h3,h4,h5⟩ | ⟨h1,h2⟩
  ·left
   simp only [h5,if_true]
   refine ⟨by simp,trivial,trivial,fun hh=>hh.2.2.1 m h1 h2 h3⟩
  ·simp only [h2,Bool.false_eq_true,if_false]
   rcases idxGo_spec false false U 0 with ⟨i,i1,i2,i4,i5⟩ | ⟨i1,i2⟩
   ·right
    have hn : ¬ idxGo false 0 U < 0:=by rw [i5];omega
    simp only [hn,if_false]
    refine ⟨i,i1, ?_,i2,i4,hgd,g2,h1⟩
    simp [i5]
   ·left
    have hn : idxGo false 0 U < 0:=by rw [i2];omega
    simp only [hn,if_true]
    refine ⟨by simp,trivial,trivial,fun hh=>?_⟩
    obtain ⟨j,hj,hu⟩:=hh.2.2.2
    have:=i1 j hj
    rw [hu] at this
    cases this
 ·left
  rw [if_neg hg]
  refine ⟨by simp,rfl,rfl,fun hh=>?_⟩
  rw [(good_iff hl).2 hh.1,hh.2.1] at hg
  exact hg rfl
theorem free_law {U : List Bool} {A : List Int} (x : Int) (hl : U.length = A.length) (h8 : U.length = 8) :
  ((freeG U A x).2 ≠ 0 /\ (freeG U A x).1 = (U,A) /\ ¬(Gd U A /\ 0 <= x /\ x < 8 /\ U.getD x.toNat false = true)) ∨
  (∃ i : Nat,i < U.length /\ x = (i : Int) /\ freeG U A x = ((U.set i false,A.set i 0),0) /\ U.getD i false = true /\ Gd U A):=by
 unfold freeG
 by_cases hg : (goodGo U A 0 U A && slot8 x) = true
 ·obtain ⟨g1,g2⟩:=(Bool.and_eq_true _ _ ▸ hg : goodGo U A 0 U A = true /\ slot8 x = true)
  have hgd:=(good_iff hl).1 g1
  have hx : 0 <= x /\ x < 8:=by simpa [slot8] using g2
  simp only [hg,if_true]
  by_cases hu : U.getD x.toNat false = true
  ·right
   simp only [hu,if_true]
   exact ⟨x.toNat,by omega,by omega,rfl,hu,hgd⟩
  ·left
   rw [if_neg hu]
   exact ⟨by simp,rfl,fun hh=>hu hh.2.2.2⟩
 ·left
  rw [if_neg hg]
  refine ⟨by simp,rfl,fun hh=>?_⟩
  have : slot8 x = true:=by simp [slot8];omega
  rw [(good_iff hl).2 hh.1,this] at hg
  exact hg rfl
end Zx.Zr
namespace Zx.Zr
open Go
theorem chkGo_iff (ep : Int) : ∀ (u : List Bool) (s c : List Int),u.length = s.length → u.length = c.length →
    (chkGo ep u s c = true ↔ ∀ i,i < u.length → (u.getD i false = false → s.getD i 0 = 0 ∧ c.getD i 0 = 0) ∧ 0 ≤ c.getD i 0 ∧ c.getD i 0 ≤ ep)
  | [],[],[],_,_=>by simp [chkGo]
  | u :: us,s :: ss,c :: cs,h1,h2=>by
    have ih:=chkGo_iff ep us ss cs (by simpa using h1) (by simpa using h2)
    unfold chkGo
    rw [Bool.and_eq_true,ih]
    constructor
    · rintro ⟨h,hr⟩ i hi
      cases i with
      | zero=>
        simp only [List.getD_cons_zero]
        cases u <;> simp at h ⊢ <;> omega
      | succ i=>
        simp only [List.getD_cons_succ]
        exact hr i (by simpa using hi)
    · intro h
      refine ⟨?_,fun i hi=>?_⟩
      · have h0:=h 0 (by simp)
        simp only [List.getD_cons_zero] at h0
        cases u <;> simp at h0 ⊢ <;> omega
      · have:=h (i + 1) (by simpa using hi)
        simpa only [List.getD_cons_succ] using this
  | [],_ :: _,_,h,_=>by simp at h
  | [],[],_ :: _,_,h=>by simp at h
  | _ :: _,[],_,h,_=>by simp at h
  | _ :: _,_ :: _,[],_,h=>by simp at h
theorem byte_bit {n i : Nat} (h : n < 256) (hi : 8 ≤ i) : n.testBit i = false:=
  Nat.testBit_lt_two_pow (Nat.lt_of_lt_of_le h (by have : 2 ^ 8 ≤ 2 ^ i:=Nat.pow_le_pow_right (by omega) hi;omega))
theorem need_bits (nd : Int) (u : List Bool) (h8 : u.length = 8) (h0 : 1 ≤ nd) (h1 : nd ≤ 255) :
    bits .andNot .i64 nd (maskGo 0 u 0) = 0 ↔ ∀ i,nd.toNat.testBit i = true → i < 8 ∧ u.getD i false = true:=by
  obtain ⟨m0,m1,_⟩:=mask_all u h8
  rw [need_mask nd _ h0 h1 m0 m1]
  obtain ⟨n,rfl⟩:=Int.eq_ofNat_of_zero_le (show 0 ≤ nd by omega)
  have hb : ∀ i,i < 8 → (maskGo 0 u 0).toNat.testBit i = u.getD i false:=fun i hi=>mask_bit' u h8 i hi
  obtain ⟨m,hm⟩:=Int.eq_ofNat_of_zero_le m0
  rw [hm] at hb ⊢
  rw [i64_and_nat n m (by omega) (by omega)]
  simp only [Int.toNat_natCast] at hb ⊢
  have hn : n < 256:=by omega
  constructor
  · intro h i hi
    have h4 : n &&& m = n:=by exact_mod_cast h
    have hi8 : i < 8:=by
      rcases Nat.lt_or_ge i 8 with h' | h'
      · exact h'
      · rw [byte_bit hn h'] at hi;cases hi
    refine ⟨hi8, ?_⟩
    rw [← hb i hi8]
    rw [← h4,Nat.testBit_and] at hi
    simp at hi
    exact hi.2
  · intro h
    have : n &&& m = n:=by
      apply Nat.eq_of_testBit_eq
      intro i
      rw [Nat.testBit_and]
      cases hi : n.testBit i with
      | false=>rfl
      | true=>
        obtain ⟨h8',hu⟩:=h i hi
        rw [hb i h8',hu];rfl
    exact_mod_cast this
structure RmOk (r : RV) : Prop where
  u8 : r.u.length = 8
  a8 : r.a.length = 8
  s8 : r.s.length = 8
  c8 : r.c.length = 8
  gd : Gd r.u r.a
  gs : goodS r.k = true
  ck : ∀ i,i < 8 → (r.u.getD i false = false → r.s.getD i 0 = 0 ∧ r.c.getD i 0 = 0) ∧ 0 ≤ r.c.getD i 0 ∧ r.c.getD i 0 ≤ r.k.ep
  nd : r.k.op = true → ∀ i,r.k.nd.toNat.testBit i = true → i < 8 ∧ r.u.getD i false = true
  ov : r.o = true → ∀ i,i < 8 → r.u.getD i false = false
  h0 : 0 ≤ r.k.hv
  h1 : r.k.hv ≤ 255
theorem mask_good {u : List Bool} {a : List Int} (hl : u.length = a.length) (h : Gd u a) : maskG u a = maskGo 0 u 0:=by
  unfold maskG
  rw [if_pos ((good_iff hl).2 h)]
theorem nd_bd {s : St} (hg : goodS s = true) (ho : s.op = true) : 1 ≤ s.nd ∧ s.nd ≤ 255:=by
  have:=(good_open_iff s ho).1 hg
  omega
theorem all_off {u : List Bool} (h8 : u.length = 8) : (u.all fun b=>!b) = true ↔ ∀ i,i < 8 → u.getD i false = false:=by
  match u,h8 with
  | [b0,b1,b2,b3,b4,b5,b6,b7],_=>
    constructor
    · intro h i hi
      simp at h
      match i,hi with
      | 0,_=>simp [h]
      | 1,_=>simp [h]
      | 2,_=>simp [h]
      | 3,_=>simp [h]
      | 4,_=>simp [h]
      | 5,_=>simp [h]
      | 6,_=>simp [h]
      | 7,_=>simp [h]
    · intro h
      have h0:=h 0 (by omega);have h1:=h 1 (by omega);have h2:=h 2 (by omega);have h3:=h 3 (by omega)
      have h4:=h 4 (by omega);have h5:=h 5 (by omega);have h6:=h 6 (by omega);have h7:=h 7 (by omega)
      simp at h0 h1 h2 h3 h4 h5 h6 h7
      simp [h0,h1,h2,h3,h4,h5,h6,h7]
theorem rmok_iff {r : RV} (u8 : r.u.length = 8) (a8 : r.a.length = 8) (s8 : r.s.length = 8) (c8 : r.c.length = 8) (h0 : 0 ≤ r.k.hv) (h1 : r.k.hv ≤ 255) : goodRm r = true ↔ RmOk r:=by
  obtain ⟨m0,m1,m2⟩:=mask_all r.u u8
  have hck:=chkGo_iff r.k.ep r.u r.s r.c (by omega) (by omega)
  rw [u8] at hck
  unfold goodRm
  simp only [Bool.and_eq_true]
  constructor
  · rintro ⟨⟨⟨g1,g2⟩,g3⟩,g4⟩
    have hgd:=(good_iff (U:=r.u) (A:=r.a) (by omega)).1 (by simpa [gdG] using g1)
    have hm:=mask_good (by omega) hgd
    unfold endRm at g4
    rw [hm] at g4
    simp only [Bool.and_eq_true,Bool.or_eq_true,Bool.not_eq_true',decide_eq_true_eq] at g4
    refine ⟨u8,a8,s8,c8,hgd,g2,hck.1 g3,fun ho=>?_,fun ho=>?_,h0,h1⟩
    · obtain ⟨n0,n1⟩:=nd_bd g2 ho
      refine (need_bits _ _ u8 n0 n1).1 ?_
      rcases g4.1 with h | h
      · rw [ho] at h;cases h
      · exact h
    · refine (all_off u8).1 ?_
      rw [← m2]
      rcases g4.2 with h | h
      · rw [ho] at h;cases h
      · exact decide_eq_true h
  · intro h
    have hm:=mask_good (by omega) h.gd
    refine ⟨⟨⟨by simpa [gdG] using (good_iff (by omega)).2 h.gd,h.gs⟩,hck.2 h.ck⟩, ?_⟩
    unfold endRm
    rw [hm]
    simp only [Bool.and_eq_true,Bool.or_eq_true,Bool.not_eq_true',decide_eq_true_eq]
    refine ⟨?_, ?_⟩
    · cases ho : r.k.op with
      | false=>exact .inl rfl
      | true=>
        obtain ⟨n0,n1⟩:=nd_bd h.gs ho
        exact .inr ((need_bits _ _ u8 n0 n1).2 (h.nd ho))
    · cases ho : r.o with
      | false=>exact .inl rfl
      | true=>
        refine .inr ?_
        have:=(all_off u8).2 (h.ov ho)
        rw [← m2] at this
        exact of_decide_eq_true this
theorem RmOk.good {r : RV} (h : RmOk r) : goodRm r = true:=(rmok_iff h.u8 h.a8 h.s8 h.c8 h.h0 h.h1).2 h
def cntL (u v : List Bool) : Nat → Nat
  | 0=>0
  | n + 1=>cntL u v n + if (u.getD n false && !v.getD n false) = true then 1 else 0
theorem cntL_self (u : List Bool) : ∀ n,cntL u u n = 0
  | 0=>rfl
  | n + 1=>by simp [cntL,cntL_self u n]
theorem cntL_set {u v : List Bool} {i : Nat} (hi : i < v.length) (hu : u.getD i false = true) (hv : v.getD i false = true) : ∀ n,cntL u (v.set i false) n = cntL u v n + if i < n then 1 else 0
  | 0=>by simp [cntL]
  | n + 1=>by
    simp only [cntL,cntL_set hi hu hv n]
    rw [getD_set v i n false false hi]
    by_cases h : n = i
    · subst h
      rw [if_pos rfl,hu,hv]
      simp
    · rw [if_neg h]
      by_cases h2 : i < n
      · have h3 : i < n + 1:=by omega
        rw [if_pos h2,if_pos h3];omega
      · have h3 : ¬i < n + 1:=by omega
        rw [if_neg h2,if_neg h3];omega
theorem cntL_on {u v : List Bool} {i : Nat} (hi : i < v.length) (hu : u.getD i false = false) : ∀ n,cntL u (v.set i true) n = cntL u v n
  | 0=>rfl
  | n + 1=>by
    simp only [cntL,cntL_on hi hu n]
    rw [getD_set v i n true false hi]
    by_cases h : n = i
    · subst h;rw [hu];simp
    · rw [if_neg h]
theorem cntL_mono {u v v' : List Bool} : ∀ n,(∀ j,j < n → v'.getD j false = true → v.getD j false = true) → cntL u v n ≤ cntL u v' n
  | 0,_=>Nat.le_refl _
  | n + 1,h=>by
    have h1:=cntL_mono (u:=u) n fun j hj=>h j (by omega)
    have h2:=h n (by omega)
    simp only [cntL]
    cases u.getD n false <;> cases hv : v.getD n false <;> cases hv' : v'.getD n false <;> simp_all <;> omega
structure RPlay (was r : RV) (e : Int) : Prop where
  ok : RmOk r
  ep : was.k.ep ≤ r.k.ep
  er : e ≠ 0 → r = was
  ov : was.o = true → r = was
  cm : r.o = false → comS r.k = comS was.k + (cntL was.u r.u 8 : Nat)
  fin : r.o = true → was.o = false → 65535 ≤ comS was.k + (cntL was.u r.u 8 : Nat)
theorem RPlay.same {r : RV} (h : RmOk r) (e : Int) : RPlay r r e:=
  ⟨h,Int.le_refl _,fun _=>rfl,fun _=>rfl,fun _=>by rw [cntL_self];simp,fun a b=>by rw [a] at b;cases b⟩
theorem f8_off (i : Nat) : f8.getD i false = false:=by
  match i with
  | 0=>rfl
  | 1=>rfl
  | 2=>rfl
  | 3=>rfl
  | 4=>rfl
  | 5=>rfl
  | 6=>rfl
  | 7=>rfl
  | _ + 8=>rfl
theorem z8_off (i : Nat) : z8.getD i 0 = 0:=by
  match i with
  | 0=>rfl
  | 1=>rfl
  | 2=>rfl
  | 3=>rfl
  | 4=>rfl
  | 5=>rfl
  | 6=>rfl
  | 7=>rfl
  | _ + 8=>rfl
theorem over_ok (ep : Int) (h0 : 0 ≤ ep) (h1 : ep ≤ 65535) : RmOk (overG ep):=
  ⟨rfl,rfl,rfl,rfl,fun i hi=>⟨fun h=>(by rw [show (overG ep).u = f8 from rfl,f8_off] at h;cases h),fun _=>z8_off i⟩,(good_shut_iff _ rfl).2 ⟨⟨h0,h1⟩,rfl,rfl,rfl,rfl⟩,
    fun i hi=>⟨fun _=>⟨z8_off i,z8_off i⟩,by rw [show (overG ep).c = z8 from rfl,z8_off];exact Int.le_refl _,by rw [show (overG ep).c = z8 from rfl,z8_off];exact h0⟩,
    fun h=>(by cases h),fun _ i _=>f8_off i,Int.le_refl _,(by show (0 : Int) ≤ 255;decide)⟩
theorem ep_bd {s : St} (h : goodS s = true) : 0 ≤ s.ep ∧ s.ep ≤ 65535:=by
  cases ho : s.op with
  | true=>exact ((good_open_iff s ho).1 h).1
  | false=>exact ((good_shut_iff s ho).1 h).1
theorem gone_law {r : RV} (h : RmOk r) {i : Nat} (hi : i < 8) (hu : r.u.getD i false = true) (now : Int) :
    RmOk (goneG r i now) ∧ r.k.ep ≤ (goneG r i now).k.ep ∧ r.o = false ∧
    ((comS r.k + 1 ≤ 65535 ∧ (goneG r i now).u = r.u.set i false ∧ (goneG r i now).a = r.a.set i 0 ∧ (goneG r i now).s = r.s.set i 0 ∧ (goneG r i now).o = false ∧ comS (goneG r i now).k = comS r.k + 1) ∨
     (comS r.k = 65535 ∧ goneG r i now = overG r.k.ep)):=by
  have hl : r.u.length = r.a.length:=by rw [h.u8,h.a8]
  have ho : r.o = false:=by
    cases hh : r.o with
    | false=>rfl
    | true=>rw [h.ov hh i hi] at hu;cases hu
  have hf : freeG r.u r.a (i : Int) = ((r.u.set i false,r.a.set i 0),0):=by
    rcases free_law (i : Int) hl h.u8 with ⟨_,_,hn⟩ | ⟨j,hj,hx,he,_⟩
    · exact absurd ⟨h.gd,by omega,by omega,by simpa using hu⟩ hn
    · have : j = i:=by omega
      subst this
      exact he
  have hgd : Gd (r.u.set i false) (r.a.set i 0):=gd_clear hl h.gd (by rw [h.u8];exact hi)
  have hm : maskG (r.u.set i false) (r.a.set i 0) = maskGo 0 (r.u.set i false) 0:=mask_good (by simp [hl]) hgd
  obtain ⟨m0,m1,m2⟩:=mask_all (r.u.set i false) (by simp [h.u8])
  obtain ⟨e0,e1⟩:=ep_bd h.gs
  obtain ⟨c0,c1⟩:=com_bd r.k h.gs
  obtain ⟨st,_⟩:=raise_step r.k (maskGo 0 (r.u.set i false) 0) now h.gs
  obtain ⟨v0,v1⟩:=raise_hv r.k (maskGo 0 (r.u.set i false) 0) now h.h0 h.h1
  have hneed : needB (maskGo 0 (r.u.set i false) 0) = true:=by simp [needB];omega
  have hr : raiseF r.k (maskGo 0 (r.u.set i false) 0) now = (if 65535 < comS r.k + 1 then (r.k,11) else if maskGo 0 (r.u.set i false) 0 = 0 then (⟨comS r.k + 1,false,0,0,0,0⟩,0) else (⟨r.k.ep,true,comS r.k + 1,maskGo 0 (r.u.set i false) 0,0,now⟩,0)):=by
    unfold raiseF
    rw [h.gs,hneed]
    rfl
  by_cases hc : 65535 < comS r.k + 1
  · have hg : goneG r i now = overG r.k.ep:=by
      unfold goneG
      rw [hf]
      dsimp only
      rw [hm,hr,if_pos hc]
      exact if_neg (fun e : (11 : Int) = 0=>absurd e (by decide))
    rw [hg]
    exact ⟨over_ok _ e0 e1,Int.le_refl _,ho,.inr ⟨by omega,rfl⟩⟩
  · have h2 : (raiseF r.k (maskGo 0 (r.u.set i false) 0) now).2 = 0:=by
      rw [hr,if_neg hc]
      split <;> rfl
    have hg : goneG r i now = ⟨r.u.set i false,r.a.set i 0,(raiseF r.k (maskGo 0 (r.u.set i false) 0) now).1,r.s.set i 0,r.c.set i 0,r.o⟩:=by
      unfold goneG
      rw [hf]
      dsimp only
      rw [hm,if_pos h2]
      simp
    rw [hg]
    refine ⟨⟨by simp [h.u8],by simp [h.a8],by simp [h.s8],by simp [h.c8],hgd,st.good,fun j hj=>?_,fun hop j hj=>?_,fun hh=>?_,v0,v1⟩,st.ep,ho,.inl ⟨by omega,rfl,rfl,rfl,ho, ?_⟩⟩
    · dsimp only
      obtain ⟨k1,k2,k3⟩:=h.ck j hj
      have hep:=st.ep
      rw [getD_set _ _ _ _ _ (by rw [h.u8];exact hi),getD_set _ _ _ _ _ (by rw [h.s8];exact hi),getD_set _ _ _ _ _ (by rw [h.c8];exact hi)]
      by_cases e : j = i
      · simp only [if_pos e]
        exact ⟨fun _=>⟨trivial,trivial⟩,Int.le_refl _,by omega⟩
      · simp only [if_neg e]
        exact ⟨k1,k2,by omega⟩
    · dsimp only at hop hj ⊢
      have hne : ¬maskGo 0 (r.u.set i false) 0 = 0:=fun e=>by
        rw [hr,if_neg hc,if_pos e] at hop
        cases hop
      have hnd : (raiseF r.k (maskGo 0 (r.u.set i false) 0) now).1.nd = maskGo 0 (r.u.set i false) 0:=by rw [hr,if_neg hc,if_neg hne]
      rw [hnd] at hj
      have hj8 : j < 8:=by
        rcases Nat.lt_or_ge j 8 with h' | h'
        · exact h'
        · rw [byte_bit (by omega) h'] at hj;cases hj
      exact ⟨hj8,by rw [← mask_bit' _ (by simp [h.u8]) j hj8];exact hj⟩
    · dsimp only at hh;rw [ho] at hh;cases hh
    · dsimp only
      rw [hr,if_neg hc]
      split <;> rfl
theorem gone_play {r : RV} (h : RmOk r) {i : Nat} (hi : i < 8) (hu : r.u.getD i false = true) (now e : Int) (he : e = 0) : RPlay r (goneG r i now) e:=by
  obtain ⟨g1,g2,ho,g3⟩:=gone_law h hi hu now
  refine ⟨g1,g2,fun hh=>absurd he hh,fun hh=>(by rw [ho] at hh;cases hh),fun hh=>?_,fun hh _=>?_⟩
  · rcases g3 with ⟨a1,a2,a3,a4,a5,a6⟩ | ⟨a1,a2⟩
    · rw [a6,a2,cntL_set (by rw [h.u8];exact hi) hu hu,cntL_self]
      simp [hi]
    · rw [a2] at hh;cases hh
  · rcases g3 with ⟨a1,a2,a3,a4,a5,a6⟩ | ⟨a1,a2⟩
    · rw [a5] at hh;cases hh
    · omega
theorem find_law {r : RV} (h : RmOk r) (a : Int) : ((findRm r a).2 ≠ 0 ∧ ∀ i,i < 8 → r.u.getD i false = true → r.a.getD i 0 ≠ a) ∨ ∃ i : Nat,i < 8 ∧ findRm r a = ((i : Int),0) ∧ r.u.getD i false = true ∧ r.a.getD i 0 = a:=by
  have hl : r.u.length = r.a.length:=by rw [h.u8,h.a8]
  unfold findRm
  rw [h.good]
  simp only [Bool.not_true,Bool.false_eq_true,if_false]
  have hf : findG r.u r.a a = findGo 0 r.u r.a a:=by unfold findG;rw [if_pos ((good_iff hl).2 h.gd)]
  rw [hf]
  rcases findGo_spec a r.u r.a 0 hl with ⟨m,h1,h2,h3,h4,h5⟩ | ⟨h1,h2⟩
  · right
    rw [h5]
    exact ⟨m,by rw [← h.u8];exact h1,by simp,h2,h3⟩
  · left
    rw [h2]
    exact ⟨by simp,fun i hi=>h1 i (by rw [h.u8];exact hi)⟩
theorem leaveRm_play {r : RV} (h : RmOk r) (a now : Int) : RPlay r (leaveRm r a now).1 (leaveRm r a now).2:=by
  unfold leaveRm
  rcases find_law h a with ⟨hf,_⟩ | ⟨i,hi,hf,hu,ha⟩
  · rw [if_neg hf];exact RPlay.same h _
  · rw [hf,if_pos rfl]
    exact gone_play h hi hu now 0 rfl
theorem kickRm_play {r : RV} (h : RmOk r) (a i now : Int) : RPlay r (kickRm r a i now).1 (kickRm r a i now).2:=by
  unfold kickRm
  split
  · split
    · split
      · rename_i hf
        rcases free_law i (by rw [h.u8,h.a8]) h.u8 with ⟨hn,_,_⟩ | ⟨j,hj,hx,he,hu,_⟩
        · exact absurd hf hn
        · subst hx
          exact gone_play h (by rw [← h.u8];exact hj) hu now 0 rfl
      · exact RPlay.same h _
    · exact RPlay.same h _
  · exact RPlay.same h _
theorem aliveRm_play {r : RV} (h : RmOk r) (a now : Int) : RPlay r (aliveRm r a now).1 (aliveRm r a now).2:=by
  unfold aliveRm
  rcases find_law h a with ⟨hf,_⟩ | ⟨i,hi,hf,hu,ha⟩
  · rw [if_neg hf];exact RPlay.same h _
  · rw [hf,if_pos rfl]
    have ho : r.o = false:=by
      cases hh : r.o with
      | false=>rfl
      | true=>rw [h.ov hh i hi] at hu;cases hu
    refine ⟨⟨h.u8,h.a8,by simp [h.s8],h.c8,h.gd,h.gs,fun j hj=>?_,h.nd,h.ov,h.h0,h.h1⟩,Int.le_refl _,fun hh=>absurd rfl hh,fun hh=>(by rw [ho] at hh;cases hh),fun _=>by rw [cntL_self];simp,fun a b=>by rw [show r.o = true from a] at b;cases b⟩
    dsimp only
    obtain ⟨k1,k2,k3⟩:=h.ck j hj
    refine ⟨fun hj0=>?_,k2,k3⟩
    have hne : ¬j = i:=fun e=>by subst e;rw [hu] at hj0;cases hj0
    rw [getD_set _ _ _ _ _ (by rw [h.s8];simpa using hi)]
    rw [if_neg (by simpa using hne)]
    exact k1 hj0
theorem ack_com (s : St) (i e : Int) : comS (ackF s i e).1 = comS s ∧ ((ackF s i e).1.op = true → (ackF s i e).1.nd = s.nd ∧ s.op = true):=by
  unfold ackF
  split
  · split
    · rename_i hc
      have ho : s.op = true:=by simp at hc;exact hc.1
      split
      · exact ⟨rfl,fun h=>⟨rfl,h⟩⟩
      · split
        · exact ⟨rfl,fun h=>⟨rfl,h⟩⟩
        · split
          · exact ⟨by simp [comS,ho],fun h=>by cases h⟩
          · exact ⟨rfl,fun h=>⟨rfl,h⟩⟩
    · exact ⟨rfl,fun h=>⟨rfl,h⟩⟩
  · exact ⟨rfl,fun h=>⟨rfl,h⟩⟩
theorem haveRm_play {r : RV} (h : RmOk r) (a e : Int) : RPlay r (haveRm r a e).1 (haveRm r a e).2.2:=by
  unfold haveRm
  rcases find_law h a with ⟨hf,_⟩ | ⟨i,hi,hf,hu,ha⟩
  · rw [if_neg hf];exact RPlay.same h _
  · rw [hf,if_pos rfl]
    dsimp only
    split
    · have ho : r.o = false:=by
        cases hh : r.o with
        | false=>rfl
        | true=>rw [h.ov hh i hi] at hu;cases hu
      obtain ⟨st,_,_,v0,v1⟩:=ack_step r.k i e h.gs h.h0 h.h1
      obtain ⟨q1,q2⟩:=ack_com r.k i e
      refine ⟨⟨h.u8,h.a8,h.s8,h.c8,h.gd,st.good,fun j hj=>?_,fun hop=>?_,h.ov,v0,v1⟩,st.ep,fun hh=>absurd rfl hh,fun hh=>(by rw [ho] at hh;cases hh),fun _=>by rw [cntL_self];simpa using q1,fun a b=>by rw [show r.o = true from a] at b;cases b⟩
      · obtain ⟨k1,k2,k3⟩:=h.ck j hj
        have:=st.ep
        exact ⟨k1,k2,by dsimp only;omega⟩
      · obtain ⟨q3,q4⟩:=q2 hop
        dsimp only
        rw [q3]
        exact h.nd q4
    · exact RPlay.same h _
theorem join_law {r : RV} (h : RmOk r) (a now : Int) : ((joinRm r a now).2.2 ≠ 0 ∧ (joinRm r a now).1 = r ∧ (joinRm r a now).2.1 = 0) ∨
    ((joinRm r a now).2.2 = 0 ∧ RmOk (joinRm r a now).1 ∧ r.o = false ∧ ∃ i : Nat,i < 8 ∧ (joinRm r a now).2.1 = (i : Int) ∧ r.u.getD i false = false ∧ (∀ j,j < i → r.u.getD j false = true) ∧ addrB a = true ∧ (∀ j,j < 8 → r.u.getD j false = true → r.a.getD j 0 ≠ a) ∧
      (joinRm r a now).1.u = r.u.set i true ∧ (joinRm r a now).1.a = r.a.set i a ∧ (joinRm r a now).1.o = false ∧ comS (joinRm r a now).1.k = comS r.k ∧ (joinRm r a now).1.k.ep = r.k.ep ∧ (joinRm r a now).1.s = r.s.set i now ∧ (joinRm r a now).1.c = r.c.set i r.k.ep ∧ (r.k.op = false → (joinRm r a now).1.k = r.k)):=by
  have hl : r.u.length = r.a.length:=by rw [h.u8,h.a8]
  have hfree:=join_free r a h.u8 h.good
  unfold joinRm
  rw [h.good]
  simp only [Bool.not_true,Bool.false_eq_true,if_false]
  cases ho : r.o with
  | true=>rw [if_pos rfl];exact .inl ⟨by simp,rfl,rfl⟩
  | false=>
    rw [if_neg (by simp)]
    rcases take_law a hl with ⟨q1,q2,q3,_⟩ | ⟨i,hi,hr,u0,hb,hg,hx,hn⟩
    · rw [if_neg q1]
      exact .inl ⟨q1,rfl,rfl⟩
    · rw [hr] at hfree ⊢
      simp only [] at hfree ⊢
      have hj0:=hfree trivial
      rw [if_pos trivial,if_pos hj0]
      rw [h.u8] at hi hn
      right
      obtain ⟨st,j1,j2,j3⟩:=join_step r.k (i : Int) h.gs (by have:=h.h0;omega) (by have:=h.h1;omega)
      have hsl : slB (i : Int) = true:=by simp [slB];omega
      have hj : (r.k.op = false ∧ (joinF r.k (i : Int)).1 = r.k) ∨ (r.k.op = true ∧ (joinF r.k (i : Int)).1 = ⟨r.k.ep,r.k.op,r.k.nx,bits .or .i64 r.k.nd (2 ^ ((i : Int)).toNat),r.k.hv,r.k.bn⟩):=by
        unfold joinF at hj0 ⊢
        rw [h.gs,hsl] at hj0 ⊢
        simp only [Bool.and_self,if_true] at hj0 ⊢
        cases hop : r.k.op with
        | false=>exact .inl ⟨rfl,by simp⟩
        | true=>
          rw [hop] at hj0
          simp only [if_true] at hj0 ⊢
          split at hj0
          · simp at hj0
          · rename_i hbo
            rw [if_neg hbo]
            exact .inr ⟨trivial,rfl⟩
      refine ⟨rfl,⟨by simp [h.u8],by simp [h.a8],by simp [h.s8],by simp [h.c8],gd_set hl h.gd (by rw [h.u8];exact hi) hx (by rw [h.u8];exact hn),st.good,fun j hj'=>?_,fun hop j hj'=>?_,fun hh=>(by cases hh),by rw [j3];exact h.h0,by rw [j3];exact h.h1⟩,trivial,i,hi,rfl,u0,hb,hx,hn,rfl,rfl,rfl, ?_,j1,by simp, ?_, ?_⟩
      · obtain ⟨k1,k2,k3⟩:=h.ck j hj'
        obtain ⟨e0,e1⟩:=ep_bd h.gs
        dsimp only
        have hti : ((i : Int)).toNat = i:=by simp
        rw [hti,getD_set _ _ _ _ _ (by rw [h.u8];exact hi),getD_set _ _ _ _ _ (by rw [h.s8];exact hi),getD_set _ _ _ _ _ (by rw [h.c8];exact hi),j1]
        by_cases e : j = i
        · simp only [if_pos e]
          exact ⟨fun hh=>by simp at hh,e0,Int.le_refl _⟩
        · simp only [if_neg e]
          exact ⟨k1,k2,k3⟩
      · dsimp only at hop hj' ⊢
        rcases hj with ⟨p1,p2⟩ | ⟨p1,p2⟩
        · rw [p2,p1] at hop;cases hop
        · rw [p2] at hj'
          dsimp only at hj'
          obtain ⟨n0,n1⟩:=nd_bd h.gs p1
          obtain ⟨n,hnn⟩:=Int.eq_ofNat_of_zero_le (show 0 ≤ r.k.nd by omega)
          rw [hnn,(or_pow n i (by omega) hi).1] at hj'
          simp only [Int.toNat_natCast,Nat.testBit_or,Nat.testBit_two_pow,Bool.or_eq_true,decide_eq_true_eq] at hj'
          rw [getD_set _ _ _ _ _ (by rw [h.u8];exact hi)]
          rcases hj' with hh | hh
          · have:=h.nd p1 j (by rw [hnn];simpa using hh)
            refine ⟨this.1, ?_⟩
            split
            · rfl
            · exact this.2
          · subst hh
            exact ⟨hi,by rw [if_pos rfl]⟩
      · dsimp only
        rcases hj with ⟨p1,p2⟩ | ⟨p1,p2⟩
        · rw [p2]
        · rw [p2];simp [comS,p1]
      · dsimp only
        simp [j1]
      · intro hop
        rcases hj with ⟨p1,p2⟩ | ⟨p1,p2⟩
        · exact p2
        · rw [hop] at p1;cases p1
theorem joinRm_play {r : RV} (h : RmOk r) (a now : Int) : RPlay r (joinRm r a now).1 (joinRm r a now).2.2:=by
  rcases join_law h a now with ⟨h1,h2,_⟩ | ⟨h1,h2,h3,i,hi,g1,g2,g2',g3,g4,g5,g6,g7,g8,g9,_⟩
  · rw [h2];exact RPlay.same h _
  · refine ⟨h2,by rw [g9];exact Int.le_refl _,fun hh=>absurd h1 hh,fun hh=>(by rw [h3] at hh;cases hh),fun _=>?_,fun hh=>by rw [g7] at hh;cases hh⟩
    rw [g8,g5,cntL_on (by rw [h.u8];exact hi) g2,cntL_self]
    simp
structure TkP (r x : RV) (n : Nat) : Prop where
  ok : RmOk x
  ep : r.k.ep ≤ x.k.ep
  sub : ∀ j,x.u.getD j false = true → r.u.getD j false = true
  cm : x.o = false → comS x.k = comS r.k + (cntL r.u x.u 8 : Nat) ∧ (∀ j,n ≤ j → x.u.getD j false = r.u.getD j false) ∧ r.o = false
  fin : x.o = true → r.o = false → 65535 ≤ comS r.k + (cntL r.u x.u 8 : Nat)
theorem tk_law {r : RV} (h : RmOk r) (ho : r.o = false) (late now : Int) : ∀ n,n ≤ 8 → TkP r (tkN r late now n) n
  | 0,_=>⟨h,Int.le_refl _,fun _ h=>h,fun _=>⟨by simp [tkN,cntL_self],fun _ _=>rfl,ho⟩,fun a b=>by rw [show r.o = true from a] at b;cases b⟩
  | n + 1,hn=>by
    have ih:=tk_law h ho late now n (by omega)
    simp only [tkN,tkStep]
    generalize tkN r late now n = x at ih
    split
    · rename_i hc
      simp only [Bool.and_eq_true,Bool.not_eq_true'] at hc
      obtain ⟨⟨hu,hxo⟩,_⟩:=hc
      obtain ⟨c1,c2,c3⟩:=ih.cm hxo
      have hxu : x.u.getD n false = true:=by rw [c2 n (Nat.le_refl _)];exact hu
      obtain ⟨g1,g2,g3,g4⟩:=gone_law ih.ok (by omega) hxu now
      refine ⟨g1,by have:=ih.ep;omega,fun j hj=>?_,fun hh=>?_,fun hh _=>?_⟩
      · rcases g4 with ⟨a1,a2,a3,_,a4,a5⟩ | ⟨a1,a2⟩
        · rw [a2,getD_set _ _ _ _ _ (by rw [ih.ok.u8];omega)] at hj
          split at hj
          · cases hj
          · exact ih.sub j hj
        · rw [a2,show (overG x.k.ep).u = f8 from rfl,f8_off] at hj;cases hj
      · rcases g4 with ⟨a1,a2,a3,_,a4,a5⟩ | ⟨a1,a2⟩
        · refine ⟨?_,fun j hj=>?_,ho⟩
          · rw [a5,a2,cntL_set (by rw [ih.ok.u8];omega) hu hxu,c1,if_pos (by omega)]
            push_cast
            omega
          · rw [a2,getD_set _ _ _ _ _ (by rw [ih.ok.u8];omega),if_neg (by omega)]
            exact c2 j (by omega)
        · rw [a2] at hh;cases hh
      · rcases g4 with ⟨a1,a2,a3,_,a4,a5⟩ | ⟨a1,a2⟩
        · rw [a4] at hh;cases hh
        · have:=cntL_mono (u:=r.u) (v:=x.u) (v':=(goneG x n now).u) 8 fun j _ hj=>by
            rw [a2,show (overG x.k.ep).u = f8 from rfl,f8_off] at hj;cases hj
          omega
    · exact ⟨ih.ok,ih.ep,ih.sub,fun hh=>by obtain ⟨c1,c2,c3⟩:=ih.cm hh;exact ⟨c1,fun j hj=>c2 j (by omega),c3⟩,ih.fin⟩
theorem tk_same {r : RV} (h : RmOk r) (ho : r.o = true) (late now : Int) : ∀ n,tkN r late now n = r
  | 0=>rfl
  | n + 1=>by
    simp only [tkN,tkStep,tk_same h ho late now n,ho]
    simp
theorem tickRm_play {r : RV} (h : RmOk r) (now : Int) : RPlay r (tickRm r now).1 0 ∧ (tickRm r now).2 = goneL r.u (tickRm r now).1.u 8:=by
  unfold tickRm
  rw [if_pos h.good]
  refine ⟨?_,rfl⟩
  dsimp only
  cases ho : r.o with
  | true=>rw [tk_same h ho];exact RPlay.same h 0
  | false=>
    have ht:=tk_law h ho (lateF r.k now) now 8 (Nat.le_refl _)
    exact ⟨ht.ok,ht.ep,fun hh=>absurd rfl hh,fun hh=>(by rw [ho] at hh;cases hh),fun hh=>(ht.cm hh).1,fun a b=>ht.fin a b⟩
end Zx.Zr
namespace Vx
open Go Zx Zx.Zr
theorem alive_eq (r : RV) (a now : Int) : (aliveRm r a now).1 = r \/ ∃ s,(aliveRm r a now).1 = ⟨r.u,r.a,r.k,s,r.c,r.o⟩:=by
 unfold aliveRm
 split
 ·exact .inr ⟨_,rfl⟩
 ·exact .inl rfl
theorem one_play {m n : RV} (h : RmOk m) (k : ROne m n) : ∃ e,RPlay m n e:=by
 rcases k with rfl | ⟨a,now,rfl⟩ | ⟨a,i,now,rfl⟩ | ⟨a,e,rfl⟩ | ⟨a,now,rfl⟩ | ⟨now,rfl⟩
 ·exact ⟨0,RPlay.same h 0⟩
 ·exact ⟨_,leaveRm_play h a now⟩
 ·exact ⟨_,kickRm_play h a i now⟩
 ·exact ⟨_,haveRm_play h a e⟩
 ·exact ⟨_,joinRm_play h a now⟩
 ·exact ⟨0,(tickRm_play h now).1⟩
theorem HDo_keeps {r m : RV} (k : HDo r m) : m.u = r.u /\ m.a = r.a /\ m.k = r.k /\ m.o = r.o:=by
 rcases k with rfl | ⟨a,now,rfl⟩
 ·exact ⟨rfl,rfl,rfl,rfl⟩
 ·rcases alive_eq r a now with e | ⟨s,e⟩
  ·rw [e];exact ⟨rfl,rfl,rfl,rfl⟩
  ·rw [e];exact ⟨rfl,rfl,rfl,rfl⟩
theorem HDo_play {r m : RV} (h : RmOk r) (k : HDo r m) : ∃ e,RPlay r m e:=by
 rcases k with rfl | ⟨a,now,rfl⟩
 ·exact ⟨0,RPlay.same h 0⟩
 ·exact ⟨_,aliveRm_play h a now⟩
structure RLaw (r n : RV) : Prop where
 ok : RmOk n
 ep : r.k.ep <= n.k.ep
 ov : r.o = true -> n = r
 cm : n.o = false -> comS n.k = comS r.k + (cntL r.u n.u 8 : Nat)
theorem RDo_law {r n : RV} (h : RmOk r) (k : RDo r n) : RLaw r n:=by
 obtain ⟨m,hm,hn⟩:=k
 obtain ⟨e,pm⟩:=HDo_play h hm
 obtain ⟨m1,m2,m3,m4⟩:=HDo_keeps hm
 obtain ⟨e',pn⟩:=one_play pm.ok hn
 refine ⟨pn.ok, ?_,fun ho=>?_,fun ho=>?_⟩
 ·rw [← m3];exact pn.ep
 ·have e1:=pm.ov ho
  rw [← e1] at ho ⊢
  exact pn.ov ho
 ·have:=pn.cm ho
  rw [m1,m3] at this
  exact this
def AdS (r n : RV) : Prop:=∀ j,r.u.getD j false = true -> n.u.getD j false = true -> n.a.getD j 0 = r.a.getD j 0
theorem AdS.refl (r : RV) : AdS r r:=fun _ _ _=>rfl
theorem getD_setB (l : List Bool) (i j : Nat) : (l.set i false).getD j false = true -> j ≠ i /\ l.getD j false = true:=by
 intro h
 simp only [List.getD_eq_getElem?_getD,List.getElem?_set] at h
 by_cases e : i = j
 ·subst e
  rw [if_pos rfl] at h
  split at h <;> simp at h
 ·rw [if_neg e] at h
  exact ⟨fun h'=>e h'.symm,by simpa [List.getD_eq_getElem?_getD] using h⟩
theorem free_ad (u : List Bool) (a : List Int) (i : Int) (j : Nat) (h : (freeG u a i).1.1.getD j false = true) : u.getD j false = true /\ (freeG u a i).1.2.getD j 0 = a.getD j 0:=by
 unfold freeG at h ⊢
 split
 ·rename_i h1
  rw [if_pos h1] at h
  split
  ·rename_i h2
   rw [if_pos h2] at h
   obtain ⟨h3,h4⟩:=getD_setB _ _ _ h
   refine ⟨h4, ?_⟩
   simp only [List.getD_eq_getElem?_getD,List.getElem?_set]
   rw [if_neg (fun e=>h3 e.symm)]
  ·rename_i h2
   rw [if_neg h2] at h
   exact ⟨h,rfl⟩
 ·rename_i h1
  rw [if_neg h1] at h
  exact ⟨h,rfl⟩
def AdG (r n : RV) : Prop:=∀ j,n.u.getD j false = true -> r.u.getD j false = true /\ n.a.getD j 0 = r.a.getD j 0
theorem AdG.refl (r : RV) : AdG r r:=fun _ h=>⟨h,rfl⟩
theorem AdG.trans {r m n : RV} (h : AdG r m) (k : AdG m n) : AdG r n:=fun j hj=>⟨(h j (k j hj).1).1,(k j hj).2.trans (h j (k j hj).1).2⟩
theorem AdG.s {r n : RV} (h : AdG r n) : AdS r n:=fun j _ hj=>(h j hj).2
theorem gone_ad (r : RV) (i now : Int) : AdG r (goneG r i now):=fun j hj=>by
 unfold goneG at hj ⊢
 split
 ·rename_i h1
  rw [if_pos h1] at hj
  exact free_ad r.u r.a i j hj
 ·rename_i h1
  rw [if_neg h1] at hj
  have : f8.getD j false = true:=hj
  rw [f8_off j] at this
  cases this
theorem leave_ad (r : RV) (a now : Int) : AdG r (leaveRm r a now).1:=by
 unfold leaveRm
 split
 ·exact gone_ad r _ now
 ·exact AdG.refl r
theorem kick_ad (r : RV) (a i now : Int) : AdG r (kickRm r a i now).1:=by
 unfold kickRm
 split
 ·split
  ·split
   ·exact gone_ad r i now
   ·exact AdG.refl r
  ·exact AdG.refl r
 ·exact AdG.refl r
theorem have_ad (r : RV) (a e : Int) : AdG r (haveRm r a e).1:=by
 unfold haveRm
 split
 ·split
  ·exact AdG.refl r
  ·exact AdG.refl r
 ·exact AdG.refl r
theorem tkN_ad (r : RV) (late now : Int) : ∀ n,AdG r (tkN r late now n)
 | 0=>AdG.refl r
 | n + 1=>by
  simp only [tkN,tkStep]
  split
  ·exact (tkN_ad r late now n).trans (gone_ad _ _ now)
  ·exact tkN_ad r late now n
theorem tick_ad (r : RV) (now : Int) : AdG r (tickRm r now).1:=by
 unfold tickRm
 split
 ·exact tkN_ad r _ now 8
 ·exact AdG.refl r
theorem take_ad (u : List Bool) (a : List Int) (x : Int) (j : Nat) (h : u.getD j false = true) : (takeG u a x).1.2.getD j 0 = a.getD j 0:=by
 unfold takeG
 split
 ·split
  ·rfl
  ·split
   ·rfl
   ·rename_i h0
    have h1:=idx_free u 0 (Int.le_refl 0) (by omega)
    simp only [Int.sub_zero] at h1
    have hne : (idxGo false 0 u).toNat ≠ j:=fun e=>by
     rw [e] at h1
     simp only [List.getD_eq_getElem?_getD] at h h1
     cases hu : u[j]? with
     | none=>rw [hu] at h;simp at h
     | some b=>rw [hu] at h h1;simp at h h1;rw [h] at h1;cases h1
    simp only [List.getD_eq_getElem?_getD,List.getElem?_set]
    rw [if_neg hne]
 ·rfl
theorem join_ad (r : RV) (a now : Int) : AdS r (joinRm r a now).1:=fun j h1 h2=>by
 unfold joinRm
 split
 ·rfl
 ·split
  ·rfl
  ·split
   ·split
    ·exact take_ad r.u r.a a j h1
    ·rfl
   ·rfl
theorem RDo_ad {r n : RV} (k : RDo r n) : AdS r n:=by
 obtain ⟨m,hm,hn⟩:=k
 obtain ⟨m1,m2,m3,m4⟩:=HDo_keeps hm
 have h : AdS m n:=by
  rcases hn with rfl | ⟨a,now,rfl⟩ | ⟨a,i,now,rfl⟩ | ⟨a,e,rfl⟩ | ⟨a,now,rfl⟩ | ⟨now,rfl⟩
  ·exact AdS.refl _
  ·exact (leave_ad m a now).s
  ·exact (kick_ad m a i now).s
  ·exact (have_ad m a e).s
  ·exact join_ad m a now
  ·exact (tick_ad m now).s
 intro j h1 h2
 rw [← m1] at h1
 rw [h j h1 h2,m2]
end Vx
