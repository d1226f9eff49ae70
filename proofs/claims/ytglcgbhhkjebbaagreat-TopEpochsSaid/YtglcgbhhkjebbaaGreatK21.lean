/- A part of the proof: lemmas. No condition of its own. -/
import Derived.KernelRfl
import Derived.Test.YtglcgbhhkjebbaaGreatK17
import Derived.Test.YtglcgbhhkjebbaaGreatK18
import Derived.Test.YtglcgbhhkjebbaaGreatK19
import Derived.Test.YtglcgbhhkjebbaaGreatK20
set_option linter.unusedVariables false
set_option linter.unusedSimpArgs false
namespace VtTop
noncomputable section
open Go Zx Zx.Zr Vx
set_option maxRecDepth 100000
theorem rC_split (v : Nat) : rC v = rnB v 8 ++ (rT v ++ [cB (v + 38)]):=by simp [rC,rT]
theorem rm_ok303 {ρ : Vl} {v : Nat} (h : goodRm (roomV ρ v) = true /\ 0 <= (roomV ρ v).k.hv /\ (roomV ρ v).k.hv <= 255) : RmOk (roomV ρ v):=(rmok_iff rfl rfl rfl rfl h.2.1 h.2.2).1 h.1
theorem at303 {ρ : Vl} {xs : List DC} {r : RV} (e : rvAt (xs.map (valD ρ)) 0 = r) (h : RmOk r) : atomV 303 (xs.map (valD ρ)):=by
 show goodRm (rvAt _ 0) = true /\ 0 <= (rvAt _ 0).k.hv /\ (rvAt _ 0).k.hv <= 255
 rw [e]
 exact ⟨h.good,h.h0,h.h1⟩
theorem get301 {ρ : Vl} {v u : Nat} (h : atomV 301 ((rC v ++ rC u).map (valD ρ))) : RDo (roomV ρ v) (roomV ρ u):=by
 have h : RDo (rvAt _ 0) (rvAt _ 39):=h
 have e1 : rvAt ((rC v ++ rC u).map (valD ρ)) 0 = roomV ρ v:=rvAt_mid (pre:=[]) (post:=rC u) (v:=v) rfl rfl
 have e2 : rvAt ((rC v ++ rC u).map (valD ρ)) 39 = roomV ρ u:=rvAt_mid (pre:=rC v) (post:=[]) (v:=u) (by simp) (by simp [rC,rnB,rnI])
 rw [e1,e2] at h
 exact h
theorem get303 {ρ : Vl} {v : Nat} (h : atomV 303 ((rC v).map (valD ρ))) : RmOk (roomV ρ v):=by
 have h : goodRm (rvAt _ 0) = true /\ 0 <= (rvAt _ 0).k.hv /\ (rvAt _ 0).k.hv <= 255:=h
 rw [rvAt_rC0] at h
 exact rm_ok303 h
theorem lo_gd (k : Nat) (hk : k < 4) : LemOk (tlGd k):=by
 refine LemOk.genM ?_ rfl ?_ rfl fun ρ hC hF=>?_
 ·match k,hk with
  | 0,_=>decide +kernel
  | 1,_=>decide +kernel
  | 2,_=>decide +kernel
  | 3,_=>decide +kernel
 ·match k,hk with
  | 0,_=>decide +kernel
  | 1,_=>decide +kernel
  | 2,_=>decide +kernel
  | 3,_=>decide +kernel
 ·have h1:=get301 (hF _ List.mem_cons_self)
  have h2:=get303 (hF _ (List.mem_cons_of_mem _ List.mem_cons_self))
  exact ⟨_,List.mem_cons_self,ρ,Agr.refl _ _,fun l hl=>(by cases hl),all_cons (at303 (rvAt_rC0 ρ 40) (RDo_law h2 h1).ok) all_nil,Tells.nil⟩
def lem_gd : Nat -> Lem
 | 0=>⟨tlGd 0,lo_gd 0 (by decide)⟩
 | 1=>⟨tlGd 1,lo_gd 1 (by decide)⟩
 | 2=>⟨tlGd 2,lo_gd 2 (by decide)⟩
 | _=>⟨tlGd 3,lo_gd 3 (by decide)⟩
theorem valD_tru (ρ : Vl) (v : Nat) (b : Bool) (h : decide (ρ.i v = 1) = b) : valD ρ (cB v) = valD ρ (.tru b):=by
 rw [← h];simp [valD,cB]
theorem lo_sl (k j : Nat) : LemOk (tlSl k j):=by
 refine LemOk.genM rfl rfl rfl rfl fun ρ hC hF=>?_
 have b2:=rgI_get hC 0 (by decide)
 have b3:=rgI_get hC 1 (by decide)
 simp only [Nat.add_zero,Nat.reduceAdd] at b2 b3
 have hf : iAt _ 7 = iAt _ 6 + (if bAt _ 2 = true /\ bAt _ 3 = false then 1 else 0) /\ (bAt _ 2 = true -> bAt _ 3 = true -> iAt _ 5 = iAt _ 4) /\ 0 <= iAt _ 6 /\ iAt _ 6 <= 7:=hF _ List.mem_cons_self
 simp only [iAt,bAt,List.map_cons,List.getD_cons_succ,List.getD_cons_zero,valI_cI,valB_cB,decide_eq_true_eq,decide_eq_false_iff_not] at hf
 obtain ⟨f1,f2,f3,f4⟩:=hf
 by_cases h2 : ρ.i 2 = 1
 ·by_cases h3 : ρ.i 3 = 1
  ·refine ⟨_,List.mem_cons_of_mem _ (List.mem_cons_of_mem _ List.mem_cons_self),ρ,Agr.refl _ _,fun l hl=>?_,all_nil, ?_⟩
   ·rw [if_neg (fun h=>h.2 h3)] at f1
    have f5:=f2 h2 h3
    simp only [List.mem_cons,List.not_mem_nil,or_false] at hl
    rcases hl with rfl | rfl | rfl | rfl | rfl | rfl | rfl | rfl <;> simp only [Lin.den,Tm.den] <;> omega
   ·refine Tells.cons _ List.mem_cons_self rfl rfl rfl (valD_tru ρ 2 true (by simp [h2])) ?_
    refine Tells.cons _ (List.mem_cons_of_mem _ List.mem_cons_self) rfl rfl rfl (valD_tru ρ 3 true (by simp [h3])) ?_
    refine Tells.cons (aC 1 (8 + j) (cI .i64 5)) (List.mem_cons_of_mem _ (List.mem_cons_of_mem _ (List.mem_cons_of_mem _ List.mem_cons_self))) rfl rfl rfl ?_ Tells.nil
    show valD ρ (cI .i64 5) = valD ρ (cI .i64 4)
    simp only [valD,cI,Lin.var_den]
    rw [f2 h2 h3]
  ·refine ⟨_,List.mem_cons_self,ρ,Agr.refl _ _,fun l hl=>?_,all_nil, ?_⟩
   ·rw [if_pos ⟨h2,h3⟩] at f1
    simp only [List.mem_cons,List.not_mem_nil,or_false] at hl
    rcases hl with rfl | rfl | rfl | rfl | rfl | rfl | rfl | rfl <;> simp only [Lin.den,Tm.den] <;> omega
   ·refine Tells.cons _ List.mem_cons_self rfl rfl rfl (valD_tru ρ 2 true (by simp [h2])) ?_
    exact Tells.cons _ (List.mem_cons_of_mem _ List.mem_cons_self) rfl rfl rfl (valD_tru ρ 3 false (by simp [h3])) Tells.nil
 ·refine ⟨_,List.mem_cons_of_mem _ List.mem_cons_self,ρ,Agr.refl _ _,fun l hl=>?_,all_nil, ?_⟩
  ·rw [if_neg (fun h=>h2 h.1)] at f1
   simp only [List.mem_cons,List.not_mem_nil,or_false] at hl
   rcases hl with rfl | rfl | rfl | rfl <;> simp only [Lin.den,Tm.den] <;> omega
  ·exact Tells.cons _ List.mem_cons_self rfl rfl rfl (valD_tru ρ 2 false (by simp [h2])) Tells.nil
def lem_sl (k j : Nat) : Lem:=⟨tlSl k j,lo_sl k j⟩
theorem cntL_le (u v : List Bool) : ∀ n,cntL u v n <= n
 | 0=>Nat.le_refl _
 | n + 1=>by
  have:=cntL_le u v n
  simp only [cntL]
  split <;> omega
def lawN (r n : RV) : List Int:=[bI (r.u.getD 0 false),bI (r.u.getD 1 false),bI (r.u.getD 2 false),bI (r.u.getD 3 false),bI (r.u.getD 4 false),bI (r.u.getD 5 false),bI (r.u.getD 6 false),bI (r.u.getD 7 false),
 bI (n.u.getD 0 false),bI (n.u.getD 1 false),bI (n.u.getD 2 false),bI (n.u.getD 3 false),bI (n.u.getD 4 false),bI (n.u.getD 5 false),bI (n.u.getD 6 false),bI (n.u.getD 7 false),
 (cntL r.u n.u 1 : Nat),(cntL r.u n.u 2 : Nat),(cntL r.u n.u 3 : Nat),(cntL r.u n.u 4 : Nat),(cntL r.u n.u 5 : Nat),(cntL r.u n.u 6 : Nat),(cntL r.u n.u 7 : Nat),(cntL r.u n.u 8 : Nat),comS r.k]
abbrev lawV (ρ : Vl) : Vl:=setL ρ 80 (lawN (roomV ρ 2) (roomV ρ 41))
theorem lawV_u (ρ : Vl) (j : Nat) (h : j < 8) : (lawV ρ).i (80 + j) = bI ((roomV ρ 2).u.getD j false):=by
 rw [setL_at]
 match j,h with
 | 0,_=>rfl
 | 1,_=>rfl
 | 2,_=>rfl
 | 3,_=>rfl
 | 4,_=>rfl
 | 5,_=>rfl
 | 6,_=>rfl
 | 7,_=>rfl
theorem lawV_n (ρ : Vl) (j : Nat) (h : j < 8) : (lawV ρ).i (88 + j) = bI ((roomV ρ 41).u.getD j false):=by
 rw [show 88 + j = 80 + (8 + j) by omega,setL_at]
 match j,h with
 | 0,_=>rfl
 | 1,_=>rfl
 | 2,_=>rfl
 | 3,_=>rfl
 | 4,_=>rfl
 | 5,_=>rfl
 | 6,_=>rfl
 | 7,_=>rfl
theorem lawV_c (ρ : Vl) (j : Nat) (h : j <= 8) : valI (valD (lawV ρ) (cS8 j)) = (cntL (roomV ρ 2).u (roomV ρ 41).u j : Nat):=by
 match j,h with
 | 0,_=>rfl
 | j + 1,h=>
  show valI (valD (lawV ρ) (cI .i64 (96 + j))) = _
  rw [valI_cI,show 96 + j = 80 + (16 + j) by omega,setL_at]
  match j,h with
  | 0,_=>rfl
  | 1,_=>rfl
  | 2,_=>rfl
  | 3,_=>rfl
  | 4,_=>rfl
  | 5,_=>rfl
  | 6,_=>rfl
  | 7,_=>rfl
theorem lawV_com (ρ : Vl) : (lawV ρ).i 104 = comS (roomV ρ 2).k:=setL_at ρ 80 _ 24
theorem lawV_c8 (ρ : Vl) : (lawV ρ).i 103 = (cntL (roomV ρ 2).u (roomV ρ 41).u 8 : Nat):=setL_at ρ 80 _ 23
theorem bI01 (b : Bool) : 0 <= bI b /\ bI b <= 1:=by cases b <;> decide
theorem roomV_u (ρ : Vl) (v j : Nat) (h : j < 8) : (roomV ρ v).u.getD j false = decide (ρ.i (v + j) = 1):=by
 match j,h with
 | 0,_=>rfl
 | 1,_=>rfl
 | 2,_=>rfl
 | 3,_=>rfl
 | 4,_=>rfl
 | 5,_=>rfl
 | 6,_=>rfl
 | 7,_=>rfl
theorem roomV_a (ρ : Vl) (v j : Nat) (h : j < 8) : (roomV ρ v).a.getD j 0 = ρ.i (v + 8 + j):=by
 match j,h with
 | 0,_=>rfl
 | 1,_=>rfl
 | 2,_=>rfl
 | 3,_=>rfl
 | 4,_=>rfl
 | 5,_=>rfl
 | 6,_=>rfl
 | 7,_=>rfl
theorem rnB_map (ρ : Vl) (v : Nat) : ∀ n,(rnB v n).map (valD ρ) = (List.range n).map fun j=>Value.bool (decide (ρ.i (v + j) = 1))
 | 0=>rfl
 | n + 1=>by
  have e : ∀ (m v : Nat),(rnB v m).map (valD ρ) = (List.range m).map fun j=>Value.bool (decide (ρ.i (v + j) = 1)):=by
   intro m
   induction m with
   | zero=>intro v;rfl
   | succ m ih=>
    intro v
    rw [List.range_succ_eq_map]
    simp only [rnB,List.map_cons,List.map_map,ih (v + 1)]
    congr 1
    ·simp [valD,cB]
    ·refine List.map_congr_left fun j _=>?_
     simp only [Function.comp,Nat.add_assoc,Nat.add_comm 1 j,Nat.succ_eq_add_one]
  exact e (n + 1) v
theorem bits_map {ρ σ : Vl} {v u : Nat} (h : ∀ j,j < 8 -> ρ.i (v + j) = bI (decide (σ.i (u + j) = 1))) : (rnB v 8).map (valD ρ) = (rnB u 8).map (valD σ):=by
 rw [rnB_map,rnB_map]
 refine List.map_congr_left fun j hj=>?_
 rw [h j (List.mem_range.1 hj),bI_dec]
theorem rI_lt : ∀ (n v m : Nat),v + n <= m -> ∀ x ∈ rnI v n,x.lt m
 | 0,_,_,_,x,hx=>by cases hx
 | n + 1,v,m,h,x,hx=>by
  rcases List.mem_cons.1 hx with rfl | hx
  ·exact Lin.var_lt (by omega)
  ·exact rI_lt n (v + 1) m (by omega) x hx
theorem valD_agr' {ρ σ : Vl} {n : Nat} (h : Agr n ρ σ) {x : DC} (hx : x.lt n) : valD ρ x = valD σ x:=by
 cases x <;> first
  | rfl
  | (simp only [valD];rw [Lin.den_eq h.i hx])
  | (simp only [valD];rw [h.i _ hx])
theorem rT_map {ρ σ : Vl} {n v : Nat} (h : Agr n ρ σ) (hv : v + 38 <= n) : (rT v).map (valD σ) = (rT v).map (valD ρ):=List.map_congr_left fun x hx=>(valD_agr' h (by
 rcases List.mem_append.1 hx with hx | hx
 ·exact rI_lt 9 (v + 8) n (by omega) x hx
 ·rcases List.mem_cons.1 hx with rfl | hx
  ·show v + 17 < n;omega
  ·exact rI_lt 20 (v + 18) n (by omega) x hx)).symm
theorem map_room {ρ : Vl} {v u : Nat} (h : roomV ρ v = roomV ρ u) : (rC v).map (valD ρ) = (rC u).map (valD ρ):=by
 have key : ∀ w : Nat,(rC w).map (valD ρ) = [.bool ((roomV ρ w).u.getD 0 false),.bool ((roomV ρ w).u.getD 1 false),.bool ((roomV ρ w).u.getD 2 false),.bool ((roomV ρ w).u.getD 3 false),.bool ((roomV ρ w).u.getD 4 false),.bool ((roomV ρ w).u.getD 5 false),.bool ((roomV ρ w).u.getD 6 false),.bool ((roomV ρ w).u.getD 7 false)] ++
   ((roomV ρ w).a.map (Value.int .i64) ++ ([.int .i64 (roomV ρ w).k.ep,.bool (roomV ρ w).k.op,.int .i64 (roomV ρ w).k.nx,.int .i64 (roomV ρ w).k.nd,.int .i64 (roomV ρ w).k.hv,.int .i64 (roomV ρ w).k.bn] ++ ((roomV ρ w).s.map (Value.int .i64) ++ ((roomV ρ w).c.map (Value.int .i64) ++ [.bool (roomV ρ w).o])))):=fun w=>by
  simp [rC,rnB,rnI,roomV,valD,cB,cI,Lin.var_den]
 rw [key v,key u,h]
theorem fact76 {ρ : Vl} {k j U N : Nat} {c : Nat -> DC} (h1 : valI (valD ρ (c (j + 1))) = valI (valD ρ (c j)) + (if decide (ρ.i (80 + j) = 1) = true /\ decide (ρ.i (U + j) = 1) = false then 1 else 0)) (h2 : decide (ρ.i (80 + j) = 1) = true -> decide (ρ.i (U + j) = 1) = true -> ρ.i (N + 8 + j) = ρ.i (10 + j)) (h3 : 0 <= valI (valD ρ (c j)) /\ valI (valD ρ (c j)) <= 7) : atomV (fct76 k U N c j).id ((fct76 k U N c j).xs.map (valD ρ)):=by
 show iAt _ 7 = iAt _ 6 + (if bAt _ 2 = true /\ bAt _ 3 = false then 1 else 0) /\ (bAt _ 2 = true -> bAt _ 3 = true -> iAt _ 5 = iAt _ 4) /\ 0 <= iAt _ 6 /\ iAt _ 6 <= 7
 simp only [fct76,iAt,bAt,List.map_cons,List.getD_cons_succ,List.getD_cons_zero,valI_cI,valB_cB]
 exact ⟨h1,h2,h3⟩
theorem all76 {ρ : Vl} {k U N : Nat} {c : Nat -> DC} {F : List Atom} (h : ∀ j,j < 8 -> atomV (fct76 k U N c j).id ((fct76 k U N c j).xs.map (valD ρ))) (hF : ∀ f ∈ F,atomV f.id (f.xs.map (valD ρ))) : ∀ f ∈ f76s k U N c F,atomV f.id (f.xs.map (valD ρ)):=fun f hf=>by
 unfold f76s at hf
 rcases List.mem_cons.1 hf with rfl | hf
 ·exact h 0 (by omega)
 rcases List.mem_cons.1 hf with rfl | hf
 ·exact h 1 (by omega)
 rcases List.mem_cons.1 hf with rfl | hf
 ·exact h 2 (by omega)
 rcases List.mem_cons.1 hf with rfl | hf
 ·exact h 3 (by omega)
 rcases List.mem_cons.1 hf with rfl | hf
 ·exact h 4 (by omega)
 rcases List.mem_cons.1 hf with rfl | hf
 ·exact h 5 (by omega)
 rcases List.mem_cons.1 hf with rfl | hf
 ·exact h 6 (by omega)
 rcases List.mem_cons.1 hf with rfl | hf
 ·exact h 7 (by omega)
 exact hF f hf
theorem rest_eq {ρ σ : Vl} {U V : List DC} {v : Nat} {x : DC} (h1 : U.map (valD σ) = (rnB v 8).map (valD ρ)) (h2 : V.map (valD σ) = (rT v).map (valD ρ)) (h3 : valD σ x = valD ρ (cB (v + 38))) : (U ++ (V ++ [x])).map (valD σ) = (rC v).map (valD ρ):=by
 rw [rC_split]
 simp only [List.map_append,List.map_cons,List.map_nil,h1,h2,h3]
theorem sat_one {ρ : Val} {l : Lin} (h : 0 <= l.den ρ) : Sat ρ [l]:=fun x hx=>by rw [List.mem_singleton.1 hx];exact h
theorem lawV_bits (ρ : Vl) : (rnB 80 8).map (valD (lawV ρ)) = (rnB 2 8).map (valD ρ):=bits_map fun j hj=>by rw [lawV_u ρ j hj,roomV_u ρ 2 j hj]
theorem lawV_bitsN (ρ : Vl) : (rnB 88 8).map (valD (lawV ρ)) = (rnB 41 8).map (valD ρ):=bits_map fun j hj=>by rw [lawV_n ρ j hj,roomV_u ρ 41 j hj]
theorem lawV_old (ρ : Vl) {v : Nat} (h : v < 80) : (lawV ρ).i v = ρ.i v:=setL_old ρ 80 _ h
theorem kAt_rK (ρ : Vl) (v : Nat) (x : DC) : kAt ((rK v x).map (valD ρ)) 0 = (roomV ρ v).k:=by
 simp [kAt,rK,iAt,bAt,roomV,valD,cB,cI,valI,valB,Lin.var_den]
theorem at70 {ρ : Vl} {v : Nat} {x : DC} (h : valI (valD ρ x) = comS (roomV ρ v).k) : atomV 70 ((rK v x).map (valD ρ)):=by
 show iAt _ 6 = comS (kAt _ 0)
 rw [kAt_rK,← h]
 simp only [iAt,rK,List.map_cons,List.getD_cons_succ,List.getD_cons_zero]
theorem roomV_agr' {ρ ρ' : Vl} {n v : Nat} (h : Agr n ρ ρ') (hv : v + 39 <= n) : roomV ρ' v = roomV ρ v:=by
 have k : ∀ j,j < 39 -> ρ'.i (v + j) = ρ.i (v + j):=fun j hj=>(h.i _ (by omega)).symm
 have k0:=k 0 (by omega)
 rw [Nat.add_zero] at k0
 simp only [roomV,k0,k 1 (by omega),k 2 (by omega),k 3 (by omega),k 4 (by omega),k 5 (by omega),k 6 (by omega),k 7 (by omega),k 8 (by omega),k 9 (by omega),k 10 (by omega),k 11 (by omega),k 12 (by omega),k 13 (by omega),k 14 (by omega),k 15 (by omega),k 16 (by omega),k 17 (by omega),k 18 (by omega),k 19 (by omega),k 20 (by omega),k 21 (by omega),k 22 (by omega),k 23 (by omega),k 24 (by omega),k 25 (by omega),k 26 (by omega),k 27 (by omega),k 28 (by omega),k 29 (by omega),k 30 (by omega),k 31 (by omega),k 32 (by omega),k 33 (by omega),k 34 (by omega),k 35 (by omega),k 36 (by omega),k 37 (by omega),k 38 (by omega)]
theorem lawV_b16 (ρ : Vl) : Sat (lawV ρ).i (rgI 0 1 80 16):=rgI_sat fun j hj=>by
 rcases Nat.lt_or_ge j 8 with h | h
 ·rw [lawV_u ρ j h];exact bI01 _
 ·rw [show 80 + j = 88 + (j - 8) by omega,lawV_n ρ (j - 8) (by omega)];exact bI01 _
theorem law_D (ρ : Vl) (k : Nat) {F : List Atom} (h : RLaw (roomV ρ 2) (roomV ρ 41)) (ad : AdS (roomV ρ 2) (roomV ρ 41)) (hF : ∀ f ∈ F,atomV f.id (f.xs.map (valD (lawV ρ)))) :
  ∀ f ∈ f76s k 88 41 cS8 (⟨303,rnB 88 8 ++ (rT 41 ++ [cB 79])⟩ :: F),atomV f.id (f.xs.map (valD (lawV ρ))):=by
 have hA : Agr 80 ρ (lawV ρ):=setL_agr ρ 80 _
 refine all76 (fun j hj=>?_) (all_cons (at303 (r:=roomV ρ 41) ?_ h.ok) hF)
 ·refine fact76 ?_ ?_ ?_
  ·rw [lawV_c ρ (j + 1) (by omega),lawV_c ρ j (by omega),lawV_u ρ j hj,lawV_n ρ j hj,bI_dec,bI_dec]
   simp only [cntL]
   cases (roomV ρ 2).u.getD j false <;> cases (roomV ρ 41).u.getD j false <;> simp
  ·rw [lawV_u ρ j hj,lawV_n ρ j hj,bI_dec,bI_dec,lawV_old ρ (by omega),lawV_old ρ (by omega)]
   intro h1 h2
   have:=ad j h1 h2
   rw [roomV_a ρ 41 j hj,roomV_a ρ 2 j hj] at this
   exact this
  ·rw [lawV_c ρ j (by omega)]
   have:=cntL_le (roomV ρ 2).u (roomV ρ 41).u j
   omega
 ·have e : (rnB 88 8 ++ (rT 41 ++ [cB 79])).map (valD (lawV ρ)) = (rC 41).map (valD ρ):=rest_eq (lawV_bitsN ρ) (rT_map hA (by decide)) (by
   show valD (lawV ρ) (cB 79) = valD ρ (cB 79)
   exact (valD_agr' hA (by show 79 < 80;decide)).symm)
  rw [e,rvAt_rC0]
theorem lo_law (k : Nat) (hk : k < 4) : LemOk (tlLaw k):=by
 refine LemOk.genM ?_ rfl ?_ ?_ fun ρ hC hF=>?_
 ·match k,hk with
  | 0,_=>decide +kernel
  | 1,_=>decide +kernel
  | 2,_=>decide +kernel
  | 3,_=>decide +kernel
 ·match k,hk with
  | 0,_=>decide +kernel
  | 1,_=>decide +kernel
  | 2,_=>decide +kernel
  | 3,_=>decide +kernel
 ·match k,hk with
  | 0,_=>decide +kernel
  | 1,_=>decide +kernel
  | 2,_=>decide +kernel
  | 3,_=>decide +kernel
 ·have h1 : RDo (roomV ρ 2) (roomV ρ 41):=get301 (hF _ List.mem_cons_self)
  have h2 : RmOk (roomV ρ 2):=get303 (hF _ (List.mem_cons_of_mem _ List.mem_cons_self))
  have law:=RDo_law h2 h1
  have ad:=RDo_ad h1
  have hA : Agr 80 ρ (lawV ρ):=setL_agr ρ 80 _
  have hep : (lawV ρ).i 57 = (roomV ρ 41).k.ep /\ (lawV ρ).i 18 = (roomV ρ 2).k.ep:=⟨lawV_old ρ (by decide),lawV_old ρ (by decide)⟩
  have e38 : valD ρ (cB 40) = .bool (roomV ρ 2).o /\ valD ρ (cB 79) = .bool (roomV ρ 41).o:=⟨by simp [valD,cB,roomV],by simp [valD,cB,roomV]⟩
  have hD38 : ∀ (v : Nat) (b : Nat) (b0 : Nat) (o : Bool),valD ρ (cB (v + 38)) = .bool o -> ∀ off : Int,Tells ρ (lawV ρ) (rmG b off (zTab 49) (rC v)) (rmG b (off + ((38 : Nat) : Int)) ((zTab 49).drop 38) [.tru o]):=fun v b b0 o ho off=>tells_at (by
   have e : ((rC v).drop 38).take [DC.tru o].length = [cB (v + 38)]:=by simp [rC,rnB,rnI]
   rw [e]
   simp only [List.map_cons,List.map_nil]
   rw [ho]
   rfl)
  have hB : ∀ (v u b : Nat) (off : Int),(rnB u 8).map (valD (lawV ρ)) = (rnB v 8).map (valD ρ) -> Tells ρ (lawV ρ) (rmG b off (zTab 49) (rC v)) (rmG b off (zTab 49) (rnB u 8)):=fun v u b off he=>tells_pre (by
   have e : (rC v).take (rnB u 8).length = rnB v 8:=by simp [rC,rnB,rnI]
   rw [e];exact he)
  have c57 : 0 <= (⟨0,[(57,1),(18,-1)]⟩ : Lin).den (lawV ρ).i:=by
   have:=law.ep
   simp only [Lin.den,Tm.den,hep.1,hep.2]
   omega
  cases ho : (roomV ρ 2).o with
  | true=>
   have hn:=law.ov ho
   have e1 : overC.map (valD (lawV ρ)) = (rC 2).map (valD ρ):=rest_eq (lawV_bits ρ) (rT_map hA (by decide)) (by
    rw [e38.1,ho];rfl)
   refine ⟨_,List.mem_cons_self,lawV ρ,hA,rgI_sat fun j hj=>(by rw [lawV_u ρ j hj];exact bI01 _), ?_, ?_⟩
   ·refine all76 (fun j hj=>?_) (all_cons (at303 (r:=roomV ρ 2) (by rw [e1,rvAt_rC0]) h2) all_nil)
    refine fact76 ?_ ?_ ?_
    ·show (0 : Int) = 0 + _
     rw [if_neg]
     ·rfl
     ·intro h
      rw [h.1] at h
      exact absurd h.2 (by decide)
    ·intro _ _
     rw [show 2 + 8 + j = 10 + j by omega]
    ·show (0 : Int) <= 0 /\ (0 : Int) <= 7
     decide
   ·refine Tells.app (Tells.left (tells_run e1.symm)) (Tells.right (tells_run ?_))
    rw [e1]
    exact map_room hn
  | false=>
   cases hn : (roomV ρ 41).o with
   | true=>
    refine ⟨_,List.mem_cons_of_mem _ List.mem_cons_self,lawV ρ,hA,sat_app (lawV_b16 ρ) (sat_one c57),law_D ρ k law ad all_nil, ?_⟩
    refine Tells.app (Tells.left (hB 2 80 0 _ (lawV_bits ρ))) (Tells.app (Tells.left ?_) (Tells.app (Tells.right (hB 41 88 1 0 (lawV_bitsN ρ))) (Tells.right ?_)))
    ·have:=hD38 2 0 0 false (by rw [← ho];exact e38.1) ((39 * k : Nat) : Int)
     rwa [show ((39 * k : Nat) : Int) + ((38 : Nat) : Int) = ((39 * k + 38 : Nat) : Int) by omega] at this
    ·exact hD38 41 1 0 true (by rw [← hn];exact e38.2) 0
   | false=>
    have hcm:=law.cm hn
    have hb:=com_in law.ok.gs
    have hb2 : comS (roomV ρ 41).k <= 65535:=(com_bd _ law.ok.gs).2
    refine ⟨_,List.mem_cons_of_mem _ (List.mem_cons_of_mem _ List.mem_cons_self),lawV ρ,hA,sat_app (lawV_b16 ρ) (Sat.cons c57 (two_le ?_ ?_)),law_D ρ k law ad (all_cons ?_ (all_cons ?_ all_nil)), ?_⟩
    ·simp only [Lin.den,Tm.den,lawV_com,lawV_c8]
     omega
    ·simp only [Lin.den,Tm.den,lawV_com,lawV_c8]
     omega
    ·refine at70 ?_
     rw [valI_cI,lawV_com,roomV_agr' hA (by decide)]
    ·refine at70 ?_
     show (⟨0,[(104,1),(103,1)]⟩ : Lin).den (lawV ρ).i = _
     simp only [Lin.den,Tm.den,lawV_com,lawV_c8]
     rw [roomV_agr' hA (by decide),hcm]
     omega
    ·refine Tells.app (Tells.left (hB 2 80 0 _ (lawV_bits ρ))) (Tells.app (Tells.left ?_) (Tells.app (Tells.right (hB 41 88 1 0 (lawV_bitsN ρ))) (Tells.right ?_)))
     ·have:=hD38 2 0 0 false (by rw [← ho];exact e38.1) ((39 * k : Nat) : Int)
      rwa [show ((39 * k : Nat) : Int) + ((38 : Nat) : Int) = ((39 * k + 38 : Nat) : Int) by omega] at this
     ·exact hD38 41 1 0 false (by rw [← hn];exact e38.2) 0
def lem_law : Nat -> Lem
 | 0=>⟨tlLaw 0,lo_law 0 (by decide)⟩
 | 1=>⟨tlLaw 1,lo_law 1 (by decide)⟩
 | 2=>⟨tlLaw 2,lo_law 2 (by decide)⟩
 | _=>⟨tlLaw 3,lo_law 3 (by decide)⟩
theorem lo_ad : LemOk tlAd:=by
 refine LemOk.genM (by decide +kernel) rfl (by decide +kernel) (by decide +kernel) fun ρ hC hF=>?_
 have h1:=rgI_get (sat_l hC) 0 (by decide)
 have h8:=rgI_get (sat_r hC)
 simp only [Nat.add_zero] at h1
 obtain ⟨j,hj,hi⟩ : ∃ j : Nat,j < 8 /\ ρ.i 1 = (j : Int):=⟨(ρ.i 1).toNat,by omega,by omega⟩
 have hb:=h8 j hj
 have hA:=setL_agr ρ 10 [ρ.i (2 + j)]
 have h10 : (setL ρ 10 [ρ.i (2 + j)]).i 10 = ρ.i (2 + j):=setL_at0 ρ 10 _
 refine ⟨_,List.mem_cons_self,setL ρ 10 [ρ.i (2 + j)],hA,rgI_sat fun i hi'=>?_,all_nil,fun m hm=>?_⟩
 ·have : i = 0:=by omega
  subst this
  rw [Nat.add_zero,h10];exact hb
 ·rw [List.mem_singleton.1 hm]
  have key : ∀ (n v : Nat) (cs : List CS) (off : Int),n <= cs.length -> ∀ j,j < n -> ∃ c,cs[j]? = some c /\ (⟨0,⟨off + (j : Int),[(0,1)]⟩,c,cI .i64 (v + j)⟩ : Cell) ∈ rmG 0 off cs (rnI v n):=by
   intro n
   induction n with
   | zero=>intro v cs off _ j hj;omega
   | succ n ih=>
    intro v cs off hl j hj
    cases cs with
    | nil=>simp at hl
    | cons c cs=>
     simp only [rnI,rmG,gI_eq]
     cases j with
     | zero=>exact ⟨c,rfl,by simp⟩
     | succ j=>
      obtain ⟨c',h1,h2⟩:=ih (v + 1) cs (off + 1) (by simpa using hl) j (by omega)
      refine ⟨c',by simpa using h1,List.mem_cons_of_mem _ ?_⟩
      rw [show off + ((j + 1 : Nat) : Int) = off + 1 + (j : Int) by omega,show v + (j + 1) = v + 1 + j by omega]
      exact h2
  obtain ⟨c,k1,k2⟩:=key 8 2 ((zTab 49).drop 8) 8 (by decide) j hj
  have hc : c = (zTab 49).getD 8 (.bool 0):=by
   match j,hj,k1 with
   | 0,_,k1=>cases k1;rfl
   | 1,_,k1=>cases k1;rfl
   | 2,_,k1=>cases k1;rfl
   | 3,_,k1=>cases k1;rfl
   | 4,_,k1=>cases k1;rfl
   | 5,_,k1=>cases k1;rfl
   | 6,_,k1=>cases k1;rfl
   | 7,_,k1=>cases k1;rfl
  refine ⟨_,k2,rfl,.inr ?_,hc.symm, ?_⟩
  ·simp only [Lin.den,Tm.den]
   rw [← hA.i 1 (by omega),← hA.i 0 (by omega),hi]
   omega
  ·simp only [valD,cI,Lin.var_den,h10]
def lem_ad8 : Lem:=⟨tlAd,lo_ad⟩
end
end VtTop
namespace VtTop
noncomputable section
open Go Zx Vx
theorem cS_ok {sg : Sig} {ρ : Vl} {t v : Nat} {u : Value} (h : ((cS t v).den ρ).ok (mu sg) u) : ∃ (a : Option Addr) (n c : Nat),u = .slice a n c /\ n = (ρ.i (v + 1)).toNat /\ c = (ρ.i (v + 2)).toNat /\ n <= c ∧
  (0 < c -> 0 <= (ρ.a v).1 /\ a = some ⟨(ρ.a v).1.toNat,(ρ.a v).2 + (ρ.i v).toNat,none⟩ /\ ∀ i,i < c -> Sits sg (ρ.a v).1.toNat ((ρ.a v).2 + (ρ.i v).toNat + i * (zTab t).length) (zTab t)):=by
 simp only [cS,DC.den,Lin.var_den] at h
 split at h
 ·rename_i h0
  obtain ⟨a,rfl,h1,h2,h3⟩:=h
  refine ⟨a,_,_,rfl,rfl,rfl,h1,fun hc=>⟨?_,(h3 hc).1,(h3 hc).2⟩⟩
  rcases h0 with h0 | h0
  ·exact h0
  ·omega
 ·obtain ⟨l,_,h1,_⟩:=h
  cases h1
theorem rowTo_step {st f g : Nat} {P : Int -> Int -> Prop} {a : Option Addr} {n c : Nat} {kk kj : IntKind} {k j : Int} {sg : Sig} {w : World} (h : rowTo st f g P [.slice a n c,.int kk k,.int kj j] sg w) (h0 : 0 <= j) (hj : j < (n : Int)) (hr : rowAt st f g (P k) a j.toNat sg w) : rowTo st f g P [.slice a n c,.int kk k,.int kj (1 + j)] sg w:=by
 refine ⟨by omega,fun i hi=>?_⟩
 rcases Int.lt_or_le (i : Int) j with h1 | h1
 ·exact h.2 i h1
 ·have e : i = j.toNat:=by omega
  rw [e];exact hr
theorem rowTo_all {st f g : Nat} {P : Int -> Int -> Prop} {a : Option Addr} {n c : Nat} {kk kj : IntKind} {k j : Int} {sg : Sig} {w : World} (h : rowTo st f g P [.slice a n c,.int kk k,.int kj j] sg w) (hj : (n : Int) <= j) : rowAll st f g P [.slice a n c,.int kk k] sg w:=fun i hi=>h.2 i (by omega)
theorem rowAt_cell {sg : Sig} {ρ : Vl} {w : World} {st f g nm mx t vj vd : Nat} {P : Int -> Prop} {a : Option Addr} (hm : Cell.ok sg ρ w ⟨0,⟨(f : Int),[(vj,(st : Int)),(0,1)]⟩,.sli g nm mx,cS t vd⟩)
  (ha : a = some ⟨(ρ.a 0).1.toNat,(ρ.a 0).2 + (ρ.i 0).toNat,none⟩) (hs : 0 <= ρ.i 0) (hj : 0 <= ρ.i vj) (hP : P ((ρ.i (vd + 1)).toNat : Int)) : rowAt st f g P a (ρ.i vj).toNat sg w:=by
 obtain ⟨_,b,tt,cur,v,h1,h2,h3,h4,h5⟩:=hm
 obtain ⟨a',m,c',rfl,e1,_⟩:=cS_ok h5
 simp only [Lin.den,Tm.den] at h3 h4
 have e : ((f : Int) + ((st : Int) * ρ.i vj + (1 * ρ.i 0 + 0))).toNat = (ρ.i 0).toNat + (ρ.i vj).toNat * st + f:=by
  obtain ⟨x,hx⟩:=Int.eq_ofNat_of_zero_le hs
  obtain ⟨y,hy⟩:=Int.eq_ofNat_of_zero_le hj
  rw [hx,hy]
  simp only [Int.toNat_natCast]
  have : (f : Int) + ((st : Int) * (y : Int) + (1 * (x : Int) + 0)) = ((x + y * st + f : Nat) : Int):=by push_cast;rw [Int.mul_comm (st : Int)];omega
  rw [this];rfl
 simp only [e,← Nat.add_assoc] at h3 h4
 simp only [] at h1
 refine ⟨b,(ρ.a 0).2 + (ρ.i 0).toNat,cur,tt,a',m,c',nm,mx, ?_,h2,h3,by rw [e1];exact hP,h4⟩
 rw [ha,show (ρ.a 0).1.toNat = b by omega]
theorem cell_rowAt {sg : Sig} {ρ : Vl} {w : World} {st f g nm mx vj vd tz : Nat} {P : Int -> Prop} {a : Option Addr} (hz : ZoneOk sg w) (hr : rowAt st f g P a (ρ.i vj).toNat sg w) (ha : a = some ⟨(ρ.a 0).1.toNat,(ρ.a 0).2 + (ρ.i 0).toNat,none⟩) (h0 : 0 <= (ρ.a 0).1) (hs : 0 <= ρ.i 0) (hj : 0 <= ρ.i vj)
  (hk : (zTab tz)[f]? = some (.sli g nm mx)) (hlen : (zTab tz).length = st) (hnm : 0 < (zTab nm).length) (hsit : Sits sg (ρ.a 0).1.toNat ((ρ.a 0).2 + (ρ.i 0).toNat + (ρ.i vj).toNat * (zTab tz).length) (zTab tz)) (h0d : 0 < vd) (hjd : vj < vd) :
  ∃ (ρ' : Vl) (m : Nat),Agr vd ρ ρ' /\ Cell.ok sg ρ' w ⟨0,⟨(f : Int),[(vj,(st : Int)),(0,1)]⟩,.sli g nm mx,cS nm vd⟩ /\ ρ'.i vd = 0 /\ ρ'.i (vd + 1) = (m : Int) /\ P m /\ (m : Int) <= ρ'.i (vd + 2) /\ ρ'.i (vd + 2) <= maxLen /\ (ρ'.a vd).1 < (w.heap.size : Int):=by
 obtain ⟨b,o,cur,tt,a',m,c',nm',mx',h1,h2,h3,h4,h5⟩:=hr
 rw [ha] at h1
 cases h1
 have hk2:=hsit f _ hk
 rw [hlen] at hk2
 rw [h5] at hk2
 cases hk2
 obtain ⟨cur2,t2,v2,g1,g2,g3,_⟩:=hz _ _ _ h5
 obtain ⟨rfl,rfl⟩:=cells_inj h2 g1
 rw [h3] at g2
 cases g2
 obtain ⟨a2,n2,c2,e2,k1,k2,k3,k4⟩:=g3
 cases e2
 obtain ⟨ad,had,had2⟩ : ∃ ad : Int × Nat,ad.1 < (w.heap.size : Int) /\ (0 < c' -> ∃ b2 : Nat,ad.1 = (b2 : Int) /\ a' = some ⟨b2,ad.2,none⟩ /\ ∀ i,i < c' -> Sits sg b2 (ad.2 + i * (zTab nm).length) (zTab nm)):=by
  rcases Nat.eq_zero_or_pos c' with h0' | h0'
  ·exact ⟨(-1,0),by show (-1 : Int) < _;omega,fun h=>by omega⟩
  ·obtain ⟨b2,o2,e9,hs2⟩:=k4 h0'
   obtain ⟨z0,hz0⟩ : ∃ z0,(zTab nm)[0]? = some z0:=⟨_,List.getElem?_eq_getElem hnm⟩
   have:=hz.lt (hs2 0 h0' 0 z0 hz0)
   exact ⟨((b2 : Int),o2),by show (b2 : Int) < _;omega,fun _=>⟨b2,rfl,e9,hs2⟩⟩
 let ρ' : Vl:=⟨fun x=>if x = vd then 0 else if x = vd + 1 then (m : Int) else if x = vd + 2 then (c' : Int) else ρ.i x,ρ.s,fun x=>if x = vd then ad else ρ.a x,ρ.A⟩
 have hi : ∀ x,x < vd -> ρ'.i x = ρ.i x:=fun x hx=>by simp only [ρ'];rw [if_neg (by omega),if_neg (by omega),if_neg (by omega)]
 have hA : ∀ x,x < vd -> ρ'.a x = ρ.a x:=fun x hx=>by simp only [ρ'];rw [if_neg (by omega)]
 have e0 : ρ'.i vd = 0:=by simp [ρ']
 have e1 : ρ'.i (vd + 1) = (m : Int):=by simp [ρ']
 have e2 : ρ'.i (vd + 2) = (c' : Int):=by simp [ρ']
 have ea : ρ'.a vd = ad:=by simp [ρ']
 have e : ((f : Int) + ((st : Int) * ρ.i vj + (1 * ρ.i 0 + 0))) = (((ρ.i 0).toNat + (ρ.i vj).toNat * st + f : Nat) : Int):=by
  obtain ⟨x,hx⟩:=Int.eq_ofNat_of_zero_le hs
  obtain ⟨y,hy⟩:=Int.eq_ofNat_of_zero_le hj
  rw [hx,hy]
  simp only [Int.toNat_natCast]
  push_cast
  rw [Int.mul_comm (st : Int)];omega
 have ed : (Lin.den ρ'.i ⟨(f : Int),[(vj,(st : Int)),(0,1)]⟩) = (((ρ.i 0).toNat + (ρ.i vj).toNat * st + f : Nat) : Int):=by
  simp only [Lin.den,Tm.den];rw [hi vj hjd,hi 0 h0d];exact e
 refine ⟨ρ',m,⟨fun x hx=>(hi x hx).symm,fun _ _=>rfl,fun x hx=>(hA x hx).symm,rfl⟩,⟨by simp only [];rw [ed];omega,(ρ.a 0).1.toNat,tt,cur,.slice a' m c', ?_,h2, ?_, ?_, ?_⟩,e0,e1,h4,by rw [e2];omega,by rw [e2];omega,by rw [ea];exact had⟩
 ·simp only [];rw [hA 0 h0d];omega
 ·simp only [];rw [ed,hA 0 h0d,Int.toNat_natCast,← Nat.add_assoc,← Nat.add_assoc];exact h3
 ·simp only [];rw [ed,hA 0 h0d,Int.toNat_natCast,← Nat.add_assoc,← Nat.add_assoc];exact h5
 ·simp only [cS,DC.den,Lin.var_den]
  rw [if_pos (by
   rcases Nat.eq_zero_or_pos c' with h0' | h0'
   ·right;rw [e2];omega
   ·left;obtain ⟨b2,e9,_⟩:=had2 h0';rw [ea,e9];exact Int.natCast_nonneg _),e0,e1,e2]
  refine ⟨a',by simp,by simpa using k1,by simpa using k2,fun hc=>?_⟩
  have hc' : 0 < c':=by simpa using hc
  obtain ⟨b2,e9,e8,hs2⟩:=had2 hc'
  rw [ea,e9]
  simp only [Int.toNat_natCast,Int.toNat_zero,Nat.add_zero]
  exact ⟨e8,fun i hi'=>hs2 i (by simpa using hi')⟩
theorem z230l : (zTab 230).length = 5:=rfl
theorem z230d : (zTab 230)[2]? = some (.sli 275 3 1024):=rfl
theorem z33l : (zTab 33).length = 4:=rfl
theorem z33d : (zTab 33)[3]? = some (.sli 18 5 9223372036854775807):=rfl
theorem hG {E : Ent} {sg : Sig} {ρ : Vl} {w : World} {G : List Atom} {C : List Lin} (hC : Sat ρ.i C) (h : ∀ f ∈ G,f.wok sg ρ w) : Shp.Holds { n:=0,P:=[],C:=C,adr:=[],G:=G } E sg ρ (fun _=>none) w:=
 ⟨hC,fun _ h=>(by cases h),fun _ h=>(by cases h),fun _ h=>(by cases h),fun _ h=>(by cases h),fun _ h=>(by cases h),h⟩
theorem sat0 {ρ : Val} : Sat ρ []:=fun _ h=>(by cases h)
theorem g1 {sg : Sig} {ρ : Vl} {w : World} {f : Atom} (h : f.wok sg ρ w) : ∀ x ∈ [f],x.wok sg ρ w:=fun x hx=>by rw [List.mem_singleton.1 hx];exact h
theorem w217 {vs : List Value} {sg : Sig} {w : World} (h : rowTo 5 2 275 isLen vs sg w) : atomW 217 vs sg w:=by unfold atomW;rw [if_pos rfl];exact h
theorem u217 {vs : List Value} {sg : Sig} {w : World} (h : atomW 217 vs sg w) : rowTo 5 2 275 isLen vs sg w:=by unfold atomW at h;rw [if_pos rfl] at h;exact h
theorem w2170 {vs : List Value} {sg : Sig} {w : World} (h : rowAll 5 2 275 isLen vs sg w) : atomW 2170 vs sg w:=by unfold atomW;rw [if_neg (by decide)];rw [if_pos rfl];exact h
theorem u2170 {vs : List Value} {sg : Sig} {w : World} (h : atomW 2170 vs sg w) : rowAll 5 2 275 isLen vs sg w:=by unfold atomW at h;rw [if_neg (by decide)] at h;rw [if_pos rfl] at h;exact h
theorem w218 {vs : List Value} {sg : Sig} {w : World} (h : rowTo 4 3 18 atMost vs sg w) : atomW 218 vs sg w:=by unfold atomW;rw [if_neg (by decide)];rw [if_neg (by decide)];rw [if_pos rfl];exact h
theorem u218 {vs : List Value} {sg : Sig} {w : World} (h : atomW 218 vs sg w) : rowTo 4 3 18 atMost vs sg w:=by unfold atomW at h;rw [if_neg (by decide)] at h;rw [if_neg (by decide)] at h;rw [if_pos rfl] at h;exact h
theorem w2180 {vs : List Value} {sg : Sig} {w : World} (h : rowAll 4 3 18 atMost vs sg w) : atomW 2180 vs sg w:=by unfold atomW;rw [if_neg (by decide)];rw [if_neg (by decide)];rw [if_neg (by decide)];rw [if_pos rfl];exact h
theorem u2180 {vs : List Value} {sg : Sig} {w : World} (h : atomW 2180 vs sg w) : rowAll 4 3 18 atMost vs sg w:=by unfold atomW at h;rw [if_neg (by decide)] at h;rw [if_neg (by decide)] at h;rw [if_neg (by decide)] at h;rw [if_pos rfl] at h;exact h
def tl_start217 : TC:={ k:=2,pre:={ n:=5,P:=[(0,.s (.c (cS 230 0))),(1,.s (.c (.clo 169 [(3,.var 3,zTab 77)])))],C:=[],adr:=[],M:=[⟨3,⟨1,[(3,1)]⟩,.int 97 .i64 (-9223372036854775808) 9223372036854775807,cI .i64 4⟩] },W:=[],post:=[{ n:=0,P:=[],C:=[],adr:=[],G:=[⟨217,[cS 230 0,cI .i64 4,.num .i64 0]⟩] }] }
def tl_step217 : TC:={ k:=3,pre:={ n:=9,P:=[(0,.s (.c (cS 230 0))),(1,.s (.c (.clo 169 [(3,.var 3,zTab 77)]))),(2,.s (.c (cI .i64 4)))],C:=[⟨0,[(0,1)]⟩,⟨0,[(4,1)]⟩,⟨-1,[(4,-1),(1,1)]⟩,⟨0,[(2,1),(1,-1)]⟩,⟨0,[(7,1),(5,-1)]⟩,⟨0,[(7,-1),(5,1)]⟩,⟨0,[(7,1)]⟩],adr:=[],M:=[⟨3,⟨1,[(3,1)]⟩,.int 97 .i64 (-9223372036854775808) 9223372036854775807,cI .i64 5⟩,⟨0,⟨2,[(4,5),(0,1)]⟩,.sli 275 3 1024,cS 3 6⟩],G:=[⟨217,[cS 230 0,cI .i64 5,cI .i64 4]⟩] },W:=[],post:=[{ n:=0,P:=[],C:=[],adr:=[],G:=[⟨217,[cS 230 0,cI .i64 5,.int .i64 ⟨1,[(4,1)]⟩]⟩] }] }
def tl_end217 : TC:={ k:=3,pre:={ n:=6,P:=[(0,.s (.c (cS 230 0))),(1,.s (.c (.clo 169 [(3,.var 3,zTab 77)]))),(2,.s (.c (cI .i64 4)))],C:=[⟨0,[(4,1),(1,-1)]⟩,⟨0,[(4,-1),(1,1)]⟩,⟨0,[(1,1)]⟩],adr:=[],M:=[⟨3,⟨1,[(3,1)]⟩,.int 97 .i64 (-9223372036854775808) 9223372036854775807,cI .i64 5⟩],G:=[⟨217,[cS 230 0,cI .i64 5,cI .i64 4]⟩] },W:=[],post:=[{ n:=0,P:=[],C:=[],adr:=[],G:=[⟨2170,[cS 230 0,cI .i64 5]⟩] }] }
def tl_use217 : TC:={ k:=2,pre:={ n:=5,P:=[(0,.s (.c (cS 230 0))),(1,.s (.c (cI .i64 3)))],C:=[⟨0,[(0,1)]⟩,⟨0,[(3,1)]⟩,⟨-1,[(3,-1),(1,1)]⟩,⟨0,[(2,1),(1,-1)]⟩],adr:=[],G:=[⟨2170,[cS 230 0,cI .i64 4]⟩] },W:=[],post:=[{ n:=3,P:=[],C:=[⟨0,[(5,1)]⟩,⟨0,[(6,1)]⟩,⟨0,[(6,1),(4,-1)]⟩,⟨0,[(6,-1),(4,1)]⟩,⟨0,[(7,1),(6,-1)]⟩,⟨9223372036854775807,[(7,-1)]⟩],adr:=[(5,0)],M:=[⟨0,⟨2,[(3,5),(0,1)]⟩,.sli 275 3 1024,cS 3 5⟩] }] }
def tl_start218 : TC:={ k:=1,pre:={ n:=3,P:=[(0,.s (.c (cS 33 0)))],C:=[],adr:=[] },W:=[],post:=[{ n:=0,P:=[],C:=[],adr:=[],G:=[⟨218,[cS 33 0,.num .i64 2000,.num .i64 0]⟩] }] }
def tl_step218 : TC:={ k:=2,pre:={ n:=7,P:=[(0,.s (.c (cS 33 0))),(1,.s (.c (cI .i64 3)))],C:=[⟨0,[(0,1)]⟩,⟨0,[(3,1)]⟩,⟨-1,[(3,-1),(1,1)]⟩,⟨0,[(2,1),(1,-1)]⟩,⟨2000,[(5,-1)]⟩],adr:=[],M:=[⟨0,⟨3,[(3,4),(0,1)]⟩,.sli 18 5 9223372036854775807,cS 5 4⟩],G:=[⟨218,[cS 33 0,.num .i64 2000,cI .i64 3]⟩] },W:=[],post:=[{ n:=0,P:=[],C:=[],adr:=[],G:=[⟨218,[cS 33 0,.num .i64 2000,.int .i64 ⟨1,[(3,1)]⟩]⟩] }] }
def tl_end218 : TC:={ k:=2,pre:={ n:=4,P:=[(0,.s (.c (cS 33 0))),(1,.s (.c (cI .i64 3)))],C:=[⟨0,[(3,1),(1,-1)]⟩,⟨0,[(1,1)]⟩],adr:=[],G:=[⟨218,[cS 33 0,.num .i64 2000,cI .i64 3]⟩] },W:=[],post:=[{ n:=0,P:=[],C:=[],adr:=[],G:=[⟨2180,[cS 33 0,.num .i64 2000]⟩] }] }
def tl_far218 : TC:={ k:=2,pre:={ n:=4,P:=[(0,.s (.c (cS 33 0))),(1,.s (.c (cI .i64 3)))],C:=[⟨-200,[(3,1)]⟩,⟨-1,[(3,-1),(1,1)]⟩],adr:=[] },W:=[],post:=[{ n:=0,P:=[],C:=[⟨-201,[(1,1)]⟩],adr:=[] }] }
def tl_use218 : TC:={ k:=2,pre:={ n:=4,P:=[(0,.s (.c (cS 33 0))),(1,.s (.c (cI .i64 3)))],C:=[⟨0,[(0,1)]⟩,⟨0,[(3,1)]⟩,⟨-1,[(3,-1),(1,1)]⟩,⟨0,[(2,1),(1,-1)]⟩],adr:=[],G:=[⟨2180,[cS 33 0,.num .i64 2000]⟩] },W:=[],post:=[{ n:=3,P:=[],C:=[⟨0,[(4,1)]⟩,⟨0,[(5,1)]⟩,⟨2000,[(5,-1)]⟩,⟨0,[(6,1),(5,-1)]⟩,⟨9223372036854775807,[(6,-1)]⟩],adr:=[(4,0)],M:=[⟨0,⟨3,[(3,4),(0,1)]⟩,.sli 18 5 9223372036854775807,cS 5 4⟩] }] }
theorem lo_start217 : LemOk tl_start217:=⟨by decide +kernel,fun sg w ρ vs hz hl hp=>by
 obtain ⟨v,_,hv⟩:=hp.P (0,_) (List.Mem.head _)
 obtain ⟨a,n,c,rfl,_⟩:=cS_ok hv
 exact ⟨_,List.Mem.head _,ρ,Agr.refl _ _,hG sat0 (g1 ⟨[.slice a n c,.int .i64 (ρ.i 4),.int .i64 0],⟨hv,by simp [cI,DC.den,SC.ok,Lin.var_den],rfl,trivial⟩,w217 (show rowTo 5 2 275 isLen [.slice a n c,.int .i64 (ρ.i 4),.int .i64 0] sg w from ⟨Int.natCast_nonneg _,fun i hi=>by omega⟩)⟩)⟩⟩
def lem_start217 : Lem:=⟨tl_start217,lo_start217⟩
theorem lo_step217 : LemOk tl_step217:=⟨by decide +kernel,fun sg w ρ vs hz hl hp=>by
 obtain ⟨us,h1,h2⟩:=hp.G _ (List.Mem.head _)
 match us,h1,h2 with
 | [v,k,j],⟨hv,hk,hj,_⟩,h2=>
  obtain ⟨a,n,c,rfl,e1,e2,hnc,hs⟩:=cS_ok hv
  simp only [Nat.zero_add] at e1 e2
  simp only [cI,DC.den,SC.ok,Lin.var_den] at hk hj
  subst hk;subst hj
  have c0:=hp.C _ (List.Mem.head _)
  have c1:=hp.C _ (List.Mem.tail _ (List.Mem.head _))
  have c2:=hp.C _ (List.Mem.tail _ (List.Mem.tail _ (List.Mem.head _)))
  have c3:=hp.C _ (List.Mem.tail _ (List.Mem.tail _ (List.Mem.tail _ (List.Mem.head _))))
  have c4:=hp.C _ (List.Mem.tail _ (List.Mem.tail _ (List.Mem.tail _ (List.Mem.tail _ (List.Mem.head _)))))
  have c5:=hp.C _ (List.Mem.tail _ (List.Mem.tail _ (List.Mem.tail _ (List.Mem.tail _ (List.Mem.tail _ (List.Mem.head _))))))
  have c6:=hp.C _ (List.Mem.tail _ (List.Mem.tail _ (List.Mem.tail _ (List.Mem.tail _ (List.Mem.tail _ (List.Mem.tail _ (List.Mem.head _)))))))
  simp only [Lin.den,Tm.den] at c0 c1 c2 c3 c4 c5 c6
  have hm:=hp.M _ (List.Mem.tail _ (List.Mem.head _))
  obtain ⟨h5,h6,h7⟩:=hs (by omega)
  refine ⟨_,List.Mem.head _,ρ,Agr.refl _ _,hG sat0 (g1 ⟨[.slice a n c,_,.int .i64 (1 + ρ.i 4)],⟨hv,by simp [cI,DC.den,SC.ok,Lin.var_den], ?_,trivial⟩,w217 (rowTo_step (u217 h2) (by omega) (by omega) (rowAt_cell hm h6 (by omega) (by omega) (show _ = _ by simp only [Nat.reduceAdd];omega)))⟩)⟩
  simp [DC.den,SC.ok,Lin.den,Tm.den]⟩
def lem_step217 : Lem:=⟨tl_step217,lo_step217⟩
theorem lo_end217 : LemOk tl_end217:=⟨by decide +kernel,fun sg w ρ vs hz hl hp=>by
 obtain ⟨us,h1,h2⟩:=hp.G _ (List.Mem.head _)
 match us,h1,h2 with
 | [v,k,j],⟨hv,hk,hj,_⟩,h2=>
  obtain ⟨a,n,c,rfl,e1,e2,hnc,hs⟩:=cS_ok hv
  simp only [Nat.zero_add] at e1 e2
  have hj':=hj
  simp only [cI,DC.den,SC.ok,Lin.var_den] at hj'
  subst hj'
  have c0:=hp.C _ (List.Mem.head _)
  have c1:=hp.C _ (List.Mem.tail _ (List.Mem.tail _ (List.Mem.head _)))
  simp only [Lin.den,Tm.den] at c0 c1
  match k,hk,h2 with
  | .int kk k,hk,h2=>
  have h3:=u217 h2
  exact ⟨_,List.Mem.head _,ρ,Agr.refl _ _,hG sat0 (g1 ⟨[.slice a n c,.int kk k],⟨hv,hk,trivial⟩,w2170 (rowTo_all h3 (by omega))⟩)⟩⟩
def lem_end217 : Lem:=⟨tl_end217,lo_end217⟩
theorem lo_use217 : LemOk tl_use217:=⟨by decide +kernel,fun sg w ρ vs hz hl hp=>by
 obtain ⟨us,h1,h2⟩:=hp.G _ (List.Mem.head _)
 match us,h1,h2 with
 | [v,k],⟨hv,hk,_⟩,h2=>
  obtain ⟨a,n,c,rfl,e1,e2,hnc,hs⟩:=cS_ok hv
  simp only [Nat.zero_add] at e1 e2
  simp only [cI,DC.den,SC.ok,Lin.var_den] at hk
  subst hk
  have c0:=hp.C _ (List.Mem.head _)
  have c1:=hp.C _ (List.Mem.tail _ (List.Mem.head _))
  have c2:=hp.C _ (List.Mem.tail _ (List.Mem.tail _ (List.Mem.head _)))
  have c3:=hp.C _ (List.Mem.tail _ (List.Mem.tail _ (List.Mem.tail _ (List.Mem.head _))))
  simp only [Lin.den,Tm.den] at c0 c1 c2 c3
  have h3:=u2170 h2
  obtain ⟨h5,h6,h7⟩:=hs (by omega)
  obtain ⟨ρ',m,ag,k1,k2,k3,k4,k5,k6,k9⟩:=cell_rowAt (vj:=3) (vd:=5) hz (h3 (ρ.i 3).toNat (by omega)) h6 h5 (by omega) (by omega) z230d z230l (by decide +kernel) (h7 _ (by omega)) (by omega) (by omega)
  simp only [isLen] at k4
  refine ⟨_,List.Mem.head _,ρ',ag,fun l hl=>?_,fun _ h=>(by cases h),fun m hm=>by rw [List.mem_singleton.1 hm];exact k1,fun p hp=>by rw [List.mem_singleton.1 hp];exact k9,fun p hp h=>by rw [List.mem_singleton.1 hp] at h;exact absurd h (by decide),fun _ h=>(by cases h),fun _ h=>(by cases h)⟩
  simp only [Nat.reduceAdd,maxLen] at k2 k3 k5 k6
  have k7:=ag.i 4 (by omega)
  rcases List.mem_cons.1 hl with rfl | hl
  ·simp only [Lin.den,Tm.den];omega
  rcases List.mem_cons.1 hl with rfl | hl
  ·simp only [Lin.den,Tm.den];omega
  rcases List.mem_cons.1 hl with rfl | hl
  ·simp only [Lin.den,Tm.den];omega
  rcases List.mem_cons.1 hl with rfl | hl
  ·simp only [Lin.den,Tm.den];omega
  rcases List.mem_cons.1 hl with rfl | hl
  ·simp only [Lin.den,Tm.den];omega
  rcases List.mem_cons.1 hl with rfl | hl
  ·simp only [Lin.den,Tm.den];omega
  ·cases hl⟩
def lem_use217 : Lem:=⟨tl_use217,lo_use217⟩
theorem lo_start218 : LemOk tl_start218:=⟨by decide +kernel,fun sg w ρ vs hz hl hp=>by
 obtain ⟨v,_,hv⟩:=hp.P (0,_) (List.Mem.head _)
 obtain ⟨a,n,c,rfl,_⟩:=cS_ok hv
 exact ⟨_,List.Mem.head _,ρ,Agr.refl _ _,hG sat0 (g1 ⟨[.slice a n c,.int .i64 2000,.int .i64 0],⟨hv,rfl,rfl,trivial⟩,w218 (show rowTo 4 3 18 atMost [.slice a n c,.int .i64 2000,.int .i64 0] sg w from ⟨Int.natCast_nonneg _,fun i hi=>by omega⟩)⟩)⟩⟩
def lem_start218 : Lem:=⟨tl_start218,lo_start218⟩
theorem lo_step218 : LemOk tl_step218:=⟨by decide +kernel,fun sg w ρ vs hz hl hp=>by
 obtain ⟨us,h1,h2⟩:=hp.G _ (List.Mem.head _)
 match us,h1,h2 with
 | [v,k,j],⟨hv,hk,hj,_⟩,h2=>
  obtain ⟨a,n,c,rfl,e1,e2,hnc,hs⟩:=cS_ok hv
  simp only [Nat.zero_add] at e1 e2
  simp only [cI,DC.den,SC.ok,Lin.var_den] at hk hj
  subst hk;subst hj
  have c0:=hp.C _ (List.Mem.head _)
  have c1:=hp.C _ (List.Mem.tail _ (List.Mem.head _))
  have c2:=hp.C _ (List.Mem.tail _ (List.Mem.tail _ (List.Mem.head _)))
  have c3:=hp.C _ (List.Mem.tail _ (List.Mem.tail _ (List.Mem.tail _ (List.Mem.head _))))
  have c4:=hp.C _ (List.Mem.tail _ (List.Mem.tail _ (List.Mem.tail _ (List.Mem.tail _ (List.Mem.head _)))))
  simp only [Lin.den,Tm.den] at c0 c1 c2 c3 c4
  have hm:=hp.M _ (List.Mem.head _)
  obtain ⟨h5,h6,h7⟩:=hs (by omega)
  refine ⟨_,List.Mem.head _,ρ,Agr.refl _ _,hG sat0 (g1 ⟨[.slice a n c,_,.int .i64 (1 + ρ.i 3)],⟨hv,rfl, ?_,trivial⟩,w218 (rowTo_step (u218 h2) (by omega) (by omega) (rowAt_cell hm h6 (by omega) (by omega) (show _ <= _ by simp only [Nat.reduceAdd];omega)))⟩)⟩
  simp [DC.den,SC.ok,Lin.den,Tm.den]⟩
def lem_step218 : Lem:=⟨tl_step218,lo_step218⟩
theorem lo_end218 : LemOk tl_end218:=⟨by decide +kernel,fun sg w ρ vs hz hl hp=>by
 obtain ⟨us,h1,h2⟩:=hp.G _ (List.Mem.head _)
 match us,h1,h2 with
 | [v,k,j],⟨hv,hk,hj,_⟩,h2=>
  obtain ⟨a,n,c,rfl,e1,e2,hnc,hs⟩:=cS_ok hv
  simp only [Nat.zero_add] at e1 e2
  have hj':=hj
  simp only [cI,DC.den,SC.ok,Lin.var_den] at hj'
  subst hj'
  have c0:=hp.C _ (List.Mem.head _)
  have c1:=hp.C _ (List.Mem.tail _ (List.Mem.head _))
  simp only [Lin.den,Tm.den] at c0 c1
  match k,hk,h2 with
  | .int kk k,hk,h2=>
  have h3:=u218 h2
  exact ⟨_,List.Mem.head _,ρ,Agr.refl _ _,hG sat0 (g1 ⟨[.slice a n c,.int kk k],⟨hv,hk,trivial⟩,w2180 (rowTo_all h3 (by omega))⟩)⟩⟩
def lem_end218 : Lem:=⟨tl_end218,lo_end218⟩
theorem lo_use218 : LemOk tl_use218:=⟨by decide +kernel,fun sg w ρ vs hz hl hp=>by
 obtain ⟨us,h1,h2⟩:=hp.G _ (List.Mem.head _)
 match us,h1,h2 with
 | [v,k],⟨hv,hk,_⟩,h2=>
  obtain ⟨a,n,c,rfl,e1,e2,hnc,hs⟩:=cS_ok hv
  simp only [Nat.zero_add] at e1 e2
  simp only [cI,DC.den,SC.ok,Lin.var_den] at hk
  subst hk
  have c0:=hp.C _ (List.Mem.head _)
  have c1:=hp.C _ (List.Mem.tail _ (List.Mem.head _))
  have c2:=hp.C _ (List.Mem.tail _ (List.Mem.tail _ (List.Mem.head _)))
  have c3:=hp.C _ (List.Mem.tail _ (List.Mem.tail _ (List.Mem.tail _ (List.Mem.head _))))
  simp only [Lin.den,Tm.den] at c0 c1 c2 c3
  have h3:=u2180 h2
  obtain ⟨h5,h6,h7⟩:=hs (by omega)
  obtain ⟨ρ',m,ag,k1,k2,k3,k4,k5,k6,k9⟩:=cell_rowAt (vj:=3) (vd:=4) hz (h3 (ρ.i 3).toNat (by omega)) h6 h5 (by omega) (by omega) z33d z33l (by decide +kernel) (h7 _ (by omega)) (by omega) (by omega)
  simp only [atMost] at k4
  refine ⟨_,List.Mem.head _,ρ',ag,fun l hl=>?_,fun _ h=>(by cases h),fun m hm=>by rw [List.mem_singleton.1 hm];exact k1,fun p hp=>by rw [List.mem_singleton.1 hp];exact k9,fun p hp h=>by rw [List.mem_singleton.1 hp] at h;exact absurd h (by decide),fun _ h=>(by cases h),fun _ h=>(by cases h)⟩
  simp only [Nat.reduceAdd,maxLen] at k2 k3 k5 k6
  rcases List.mem_cons.1 hl with rfl | hl
  ·simp only [Lin.den,Tm.den];omega
  rcases List.mem_cons.1 hl with rfl | hl
  ·simp only [Lin.den,Tm.den];omega
  rcases List.mem_cons.1 hl with rfl | hl
  ·simp only [Lin.den,Tm.den];omega
  rcases List.mem_cons.1 hl with rfl | hl
  ·simp only [Lin.den,Tm.den];omega
  rcases List.mem_cons.1 hl with rfl | hl
  ·simp only [Lin.den,Tm.den];omega
  ·cases hl⟩
def lem_use218 : Lem:=⟨tl_use218,lo_use218⟩
theorem lo_far218 : LemOk tl_far218:=⟨by decide +kernel,fun sg w ρ vs hz hl hp=>by
 have c0:=hp.C _ (List.Mem.head _)
 have c1:=hp.C _ (List.Mem.tail _ (List.Mem.head _))
 simp only [Lin.den,Tm.den] at c0 c1
 refine ⟨_,List.Mem.head _,ρ,Agr.refl _ _,hG (fun l hl=>?_) (fun _ h=>(by cases h))⟩
 rw [List.mem_singleton.1 hl]
 simp only [Lin.den,Tm.den];omega⟩
def lem_far218 : Lem:=⟨tl_far218,lo_far218⟩
end
end VtTop
namespace Zx.Zr
open Go Go.Proofs Go.RowKit
abbrev RS:=St
def stL (s : RS) : List SC:=[.int .i64 s.ep,.boo s.op,.int .i64 s.nx,.int .i64 s.nd,.int .i64 s.hv,.int .i64 s.bn]
def stK : List LK:=[.i .i64,.b,.i .i64,.i .i64,.i .i64,.i .i64]
def gS (L : List Leaf) (i : Nat) : RS:=⟨gI L i,gB L (i+1),gI L (i+2),gI L (i+3),gI L (i+4),gI L (i+5)⟩
def rI (n : Int) : Out SV:=.eqn n fun x=>.ret (one (.int .i64 x))
def rB (n : Bool) : Out SV:=.eqn n fun x=>.ret (one (.boo x))
def goodC : Con0:={ pat:=[.a stK],out:=fun L=>rB (goodS (gS L 0)) }
def comC : Con0:={ pat:=[.a stK],out:=fun L=>rI (comS (gS L 0)) }
def raiseC : Con0:={ pat:=[.a stK,.c (.i .i64),.c (.i .i64)],out:=fun L=>.eqn (raiseF (gS L 0) (gI L 6) (gI L 7)) fun r=>.ret (.t [.a (stL r.1),.c (.int .i64 r.2)]) }
def joinC : Con0:={ pat:=[.a stK,.c (.i .i64)],out:=fun L=>.eqn (joinF (gS L 0) (gI L 6)) fun r=>.ret (.t [.a (stL r.1),.c (.int .i64 r.2)]) }
def ackC : Con0:={ pat:=[.a stK,.c (.i .i64),.c (.i .i64)],out:=fun L=>.eqn (ackF (gS L 0) (gI L 6) (gI L 7)) fun r=>.ret (.t [.a (stL r.1),.c (.boo r.2.1),.c (.int .i64 r.2.2)]) }
theorem fit_st {ks : List LK} {L : List Leaf} (h : fits (stK ++ ks) L = true) : ∃ ep op nx nd hv bn L',L = .I ep :: .B op :: .I nx :: .I nd :: .I hv :: .I bn :: L' /\ fits ks L' = true:=by
 obtain ⟨ep,_,rfl,h1⟩:=fit_i h
 obtain ⟨op,_,rfl,h2⟩:=fit_b h1
 obtain ⟨nx,_,rfl,h3⟩:=fit_i h2
 obtain ⟨nd,_,rfl,h4⟩:=fit_i h3
 obtain ⟨hv,_,rfl,h5⟩:=fit_i h4
 obtain ⟨bn,L',rfl,h6⟩:=fit_i h5
 exact ⟨ep,op,nx,nd,hv,bn,L',rfl,h6⟩
theorem com_ok : SpecOk Tryz.prog 16 comC.spec:=comC.of_calls fun L h _ w=>by
 obtain ⟨ep,op,nx,nd,hv,bn,_,rfl,h1⟩:=fit_st h
 obtain rfl:=fit_nil h1
 exact (coming_any ep op nx nd hv bn w).mono fun e w' ⟨h1,h2⟩=>⟨_,one (.int .i64 (comS ⟨ep,op,nx,nd,hv,bn⟩)),h1,rfl,rfl,h2⟩
theorem good_ok : SpecOk Tryz.prog 33 goodC.spec:=goodC.of_calls fun L h _ w=>by
 obtain ⟨ep,op,nx,nd,hv,bn,_,rfl,h1⟩:=fit_st h
 obtain rfl:=fit_nil h1
 exact (good_any ep op nx nd hv bn w).mono fun e w' ⟨h1,h2⟩=>⟨_,one (.boo (goodS ⟨ep,op,nx,nd,hv,bn⟩)),h1,rfl,rfl,h2⟩
theorem raise_ok : SpecOk Tryz.prog 147 raiseC.spec:=raiseC.of_calls fun L h _ w=>by
 obtain ⟨ep,op,nx,nd,hv,bn,_,rfl,h1⟩:=fit_st h
 obtain ⟨n,_,rfl,h2⟩:=fit_i h1
 obtain ⟨now,_,rfl,h3⟩:=fit_i h2
 obtain rfl:=fit_nil h3
 exact (raise_any ep op nx nd hv bn n now w).mono fun e w' ⟨h1,h2⟩=>⟨_,.t [.a (stL (raiseF ⟨ep,op,nx,nd,hv,bn⟩ n now).1),.c (.int .i64 (raiseF ⟨ep,op,nx,nd,hv,bn⟩ n now).2)],h1,rfl,⟨[_,_],rfl,⟨_,rfl,rfl,rfl,rfl,rfl,rfl,rfl,trivial⟩,rfl,trivial⟩,h2⟩
theorem join_ok : SpecOk Tryz.prog 140 joinC.spec:=joinC.of_calls fun L h _ w=>by
 obtain ⟨ep,op,nx,nd,hv,bn,_,rfl,h1⟩:=fit_st h
 obtain ⟨n,_,rfl,h2⟩:=fit_i h1
 obtain rfl:=fit_nil h2
 exact (join_any ep op nx nd hv bn n w).mono fun e w' ⟨h1,h2⟩=>⟨_,.t [.a (stL (joinF ⟨ep,op,nx,nd,hv,bn⟩ n).1),.c (.int .i64 (joinF ⟨ep,op,nx,nd,hv,bn⟩ n).2)],h1,rfl,⟨[_,_],rfl,⟨_,rfl,rfl,rfl,rfl,rfl,rfl,rfl,trivial⟩,rfl,trivial⟩,h2⟩
theorem ack_ok : SpecOk Tryz.prog 146 ackC.spec:=ackC.of_calls fun L h _ w=>by
 obtain ⟨ep,op,nx,nd,hv,bn,_,rfl,h1⟩:=fit_st h
 obtain ⟨n,_,rfl,h2⟩:=fit_i h1
 obtain ⟨e,_,rfl,h3⟩:=fit_i h2
 obtain rfl:=fit_nil h3
 exact (ack_any ep op nx nd hv bn n e w).mono fun x w' ⟨h1,h2⟩=>⟨_,.t [.a (stL (ackF ⟨ep,op,nx,nd,hv,bn⟩ n e).1),.c (.boo (ackF ⟨ep,op,nx,nd,hv,bn⟩ n e).2.1),.c (.int .i64 (ackF ⟨ep,op,nx,nd,hv,bn⟩ n e).2.2)],h1,rfl,⟨[_,_,_],rfl,⟨_,rfl,rfl,rfl,rfl,rfl,rfl,rfl,trivial⟩,rfl,rfl,trivial⟩,h2⟩
theorem mixed : Tryz.prog.follows .mixedOrders = true:=by kernel_rfl
end Zx.Zr
