/- A part of the proof: lemmas. No condition of its own. -/
import Derived.Test.YtglcgbhhkjebbaaGreatK07
set_option linter.unusedVariables false
set_option linter.unusedSimpArgs false
namespace Vx
noncomputable section
open Go Zx
def Kn.newC (κ : Kn) (cs : List Lin) : Kn:=⟨κ.n + 1,cs ++ κ.C,κ.F⟩
theorem newC_gr {κ : Kn} {ρ : Vl} (hκ : κ.Ok ρ) {x : Int} {cs : List Lin} (h1 : ∀ l ∈ cs,l.lt (κ.n + 1)) (h2 : ∀ l ∈ cs,0 <= l.den (ρ.seti κ.n x).i) : Gr κ (κ.newC cs) ρ (ρ.seti κ.n x):=by
 have g0:=Kn.new_gr hκ (Vl.seti_agr ρ κ.n x)
 refine ⟨Nat.le_succ _,g0.agr,⟨fun l hl=>?_,fun l hl=>?_,g0.ok.flt,g0.ok.fact⟩⟩
 ·rcases List.mem_append.1 hl with hl | hl
  ·exact h1 l hl
  ·exact g0.ok.lt l hl
 ·rcases List.mem_append.1 hl with hl | hl
  ·exact h2 l hl
  ·exact g0.ok.sat l hl
theorem old_den {κ : Kn} {ρ : Vl} {l : Lin} (hl : l.lt κ.n) (x : Int) : l.den (ρ.seti κ.n x).i = l.den ρ.i:=(Lin.den_eq (Vl.seti_agr ρ κ.n x).i hl).symm
theorem new_den (κ : Kn) (ρ : Vl) (x : Int) : (Lin.var κ.n).den (ρ.seti κ.n x).i = x:=by simp [Vl.seti]
theorem lt1 {n : Nat} {l : Lin} (h : l.lt n) : l.lt (n + 1):=Tm.lt_mono (Nat.le_succ n) h
theorem var_lt1 (n : Nat) : (Lin.var n).lt (n + 1):=Lin.var_lt (Nat.lt_succ_self n)
def freshD (k : IntKind) (cs : List Lin) (κ : Kn) (kk : Kn -> DV -> Bool) : Bool:=kk (κ.newC cs) (d1 (.int k (.var κ.n)))
theorem freshD_got {κ : Kn} {ρ : Vl} {kk : Kn -> DV -> Bool} {k : IntKind} {n : Int} {cs : List Lin} (hκ : κ.Ok ρ) (h1 : ∀ l ∈ cs,l.lt (κ.n + 1)) (h2 : ∀ l ∈ cs,0 <= l.den (ρ.seti κ.n n).i) (h : freshD k cs κ kk = true) : Got κ ρ kk (mkI k false n):=
 mkI_any (newC_gr hκ h1 h2) (x:=d1 (.int k (.var κ.n))) (var_lt1 _) (by simp [d1,DV.den,D1.den,DC.den,one,Vl.seti]) h
def inK (k : IntKind) (a : Lin) (κ : Kn) : Bool:=κ.has a && κ.has ((Lin.num k.max).sub a)
theorem inK_ok {k : IntKind} {a : Lin} {κ : Kn} {ρ : Vl} (hκ : κ.Ok ρ) (h : inK k a κ = true) : 0 <= a.den ρ.i /\ a.den ρ.i <= k.max:=by
 unfold inK at h
 rw [Bool.and_eq_true] at h
 have h1:=Kn.has_ok hκ h.1
 have h2:=Kn.has_ok hκ h.2
 rw [Lin.sub_den,Lin.num_den] at h2
 omega
def top8 (k : IntKind) (a b : Lin) (κ : Kn) : Bool:=match k,b.t with
 | .u8,[]=>decide (b.c = 8) && (κ.has a && κ.has ((Lin.num 15).sub a))
 | _,_=>false
theorem and8 : ∀ a : Fin 16,bits .and .u8 (a.val : Int) 8 = if 8 <= a.val then 8 else 0:=by decide
def andD (k : IntKind) (a b : Lin) (κ : Kn) (kk : Kn -> DV -> Bool) : Bool:=
 match top8 k a b κ with
 | true=>brD (a.addc (-8)) ((Lin.num 7).sub a) (d1 (.int .u8 (Lin.num 8))) (d1 (.int .u8 (Lin.num 0))) κ kk
 | false=>if inK k a κ && inK k b κ then freshD k [.var κ.n,a.sub (.var κ.n),b.sub (.var κ.n)] κ kk else anyD k k.min k.max κ kk
def ubV (v : Nat) : List Lin -> Option Int -> Option Int
 | [],o=>o
 | k :: C,o=>match k.t with
  | [(w,a)]=>match Nat.beq w v && decide (a = -1) with
   | true=>match o with
    | some u=>match decide (k.c < u) with
     | true=>ubV v C (some k.c)
     | false=>ubV v C (some u)
    | none=>ubV v C (some k.c)
   | false=>ubV v C o
  | _=>ubV v C o
def lbV (v : Nat) : List Lin -> Option Int -> Option Int
 | [],o=>o
 | k :: C,o=>match k.t with
  | [(w,a)]=>match Nat.beq w v && decide (a = 1) with
   | true=>match o with
    | some u=>match decide (u < -k.c) with
     | true=>lbV v C (some (-k.c))
     | false=>lbV v C (some u)
    | none=>lbV v C (some (-k.c))
   | false=>lbV v C o
  | _=>lbV v C o
theorem ubV_ok {ρ : Val} {v : Nat} : ∀ {C : List Lin} {o : Option Int} {u : Int},Sat ρ C -> (∀ x,o = some x -> ρ v <= x) -> ubV v C o = some u -> ρ v <= u
 | [],o,u,_,ho,h=>ho u h
 | k :: C,o,u,hs,ho,h=>by
  have hC : Sat ρ C:=fun l hl=>hs l (List.mem_cons_of_mem _ hl)
  unfold ubV at h
  split at h
  ·rename_i w a ht
   split at h
   ·rename_i hb
    rw [Bool.and_eq_true] at hb
    have hw:=Nat.eq_of_beq_eq_true hb.1
    have ha:=of_decide_eq_true hb.2
    have hk:=hs k (List.mem_cons_self ..)
    simp only [Lin.den,ht,Tm.den,hw,ha] at hk
    have h1 : ρ v <= k.c:=by omega
    split at h
    ·split at h
     ·exact ubV_ok hC (fun x hx=>by cases hx;exact h1) h
     ·exact ubV_ok hC (fun x hx=>ho x hx) h
    ·exact ubV_ok hC (fun x hx=>by cases hx;exact h1) h
   ·exact ubV_ok hC ho h
  ·exact ubV_ok hC ho h
theorem lbV_ok {ρ : Val} {v : Nat} : ∀ {C : List Lin} {o : Option Int} {u : Int},Sat ρ C -> (∀ x,o = some x -> x <= ρ v) -> lbV v C o = some u -> u <= ρ v
 | [],o,u,_,ho,h=>ho u h
 | k :: C,o,u,hs,ho,h=>by
  have hC : Sat ρ C:=fun l hl=>hs l (List.mem_cons_of_mem _ hl)
  unfold lbV at h
  split at h
  ·rename_i w a ht
   split at h
   ·rename_i hb
    rw [Bool.and_eq_true] at hb
    have hw:=Nat.eq_of_beq_eq_true hb.1
    have ha:=of_decide_eq_true hb.2
    have hk:=hs k (List.mem_cons_self ..)
    simp only [Lin.den,ht,Tm.den,hw,ha] at hk
    have h1 : -k.c <= ρ v:=by omega
    split at h
    ·split at h
     ·exact lbV_ok hC (fun x hx=>by cases hx;exact h1) h
     ·exact lbV_ok hC (fun x hx=>ho x hx) h
    ·exact lbV_ok hC (fun x hx=>by cases hx;exact h1) h
   ·exact lbV_ok hC ho h
  ·exact lbV_ok hC ho h
def ubT (C : List Lin) : Tm -> Int -> Option Int
 | [],s=>some s
 | (v,a) :: t,s=>match decide (0 <= a) with
  | true=>match ubV v C none with
   | some u=>ubT C t (s + a * u)
   | none=>none
  | false=>match lbV v C none with
   | some u=>ubT C t (s + a * u)
   | none=>none
theorem ubT_ok {ρ : Val} {C : List Lin} (hs : Sat ρ C) : ∀ {t : Tm} {s u : Int},ubT C t s = some u -> s + Tm.den ρ t <= u
 | [],s,u,h=>by cases h;simp [Tm.den]
 | (v,a) :: t,s,u,h=>by
  unfold ubT at h
  split at h
  ·rename_i ha
   have ha:=of_decide_eq_true ha
   split at h
   ·rename_i x hx
    have h1:=ubV_ok hs (fun _ h=>by cases h) hx
    have h2:=ubT_ok hs h
    have h3:=Int.mul_le_mul_of_nonneg_left h1 ha
    simp only [Tm.den]
    omega
   ·cases h
  ·rename_i ha
   have ha : ¬ 0 <= a:=of_decide_eq_false ha
   split at h
   ·rename_i x hx
    have h1:=lbV_ok hs (fun _ h=>by cases h) hx
    have h2:=ubT_ok hs h
    have h3:=Int.mul_le_mul_of_nonpos_left (a:=a) (by omega) h1
    simp only [Tm.den]
    omega
   ·cases h
def ubC (κ : Kn) (l : Lin) : List Lin:=match ubT κ.C l.t l.c with
 | some u=>[(Lin.num u).sub (.var κ.n)]
 | none=>[]
theorem ubC_ok {κ : Kn} {ρ : Vl} {l : Lin} {x : Int} (hκ : κ.Ok ρ) (hx : x <= l.den ρ.i) : (∀ m ∈ ubC κ l,m.lt (κ.n + 1)) /\ ∀ m ∈ ubC κ l,0 <= m.den (ρ.seti κ.n x).i:=by
 unfold ubC
 split
 ·rename_i u hu
  have h1:=ubT_ok hκ.sat hu
  have h2 : l.den ρ.i <= u:=h1
  refine ⟨fun m hm=>?_,fun m hm=>?_⟩
  ·rw [List.mem_singleton.1 hm];exact Lin.sub_lt (Lin.num_lt _ _) (var_lt1 _)
  ·rw [List.mem_singleton.1 hm,Lin.sub_den,new_den,Lin.num_den];omega
 ·exact ⟨fun m hm=>absurd hm (by simp),fun m hm=>absurd hm (by simp)⟩
def orD (k : IntKind) (a b : Lin) (κ : Kn) (kk : Kn -> DV -> Bool) : Bool:=
 if inK k a κ && inK k b κ then freshD k ([(Lin.var κ.n).sub a,(Lin.var κ.n).sub b,(a.add b).sub (.var κ.n),(Lin.num k.max).sub (.var κ.n)] ++ ubC κ (a.add b)) κ kk else anyD k k.min k.max κ kk
theorem andD_got {κ : Kn} {ρ : Vl} {kk : Kn -> DV -> Bool} {k : IntKind} {a b : Lin} (hκ : κ.Ok ρ) (ha : a.lt κ.n) (hb : b.lt κ.n) (h : andD k a b κ kk = true) : Got κ ρ kk (mkI k false (bits .and k (a.den ρ.i) (b.den ρ.i))):=by
 unfold andD at h
 split at h
 ·rename_i ht
  unfold top8 at ht
  split at ht
  ·rename_i hbt
   simp only [Bool.and_eq_true,decide_eq_true_eq] at ht
   obtain ⟨hb8,h0,h15⟩:=ht
   have h0:=Kn.has_ok hκ h0
   have h15:=Kn.has_ok hκ h15
   rw [Lin.sub_den,Lin.num_den] at h15
   have hbd : b.den ρ.i = 8:=by simp [Lin.den,hbt,Tm.den,hb8]
   rw [hbd]
   have h8:=and8 ⟨(a.den ρ.i).toNat,by omega⟩
   rw [show (((⟨(a.den ρ.i).toNat,by omega⟩ : Fin 16).val : Nat) : Int) = a.den ρ.i from Int.toNat_of_nonneg h0] at h8
   have hl1 : (a.addc (-8)).lt κ.n:=Lin.addc_lt ha
   have hl2 : ((Lin.num 7).sub a).lt κ.n:=Lin.sub_lt (Lin.num_lt _ _) ha
   unfold brD at h
   rw [Bool.and_eq_true,Bool.or_eq_true,Bool.or_eq_true] at h
   by_cases hc : 8 <= a.den ρ.i
   ·have e : bits .and .u8 (a.den ρ.i) 8 = 8:=by rw [h8,if_pos (by show 8 <= (a.den ρ.i).toNat;omega)]
    rw [e]
    rcases h.1 with h1 | h1
    ·have:=Kn.hasB_ok hκ h1
     rw [Lin.sub_den,Lin.num_den] at this
     omega
    ·exact mkI_any (Kn.add_gr hκ hl1 (by rw [Lin.addc_den];omega)) (x:=d1 (.int .u8 (Lin.num 8))) (trivial : Tm.lt κ.n []) (by simp [d1,DV.den,D1.den,DC.den,one]) h1
   ·have e : bits .and .u8 (a.den ρ.i) 8 = 0:=by rw [h8,if_neg (by show ¬ 8 <= (a.den ρ.i).toNat;omega)]
    rw [e]
    rcases h.2 with h1 | h1
    ·have:=Kn.hasB_ok hκ h1
     rw [Lin.addc_den] at this
     omega
    ·exact mkI_any (Kn.add_gr hκ hl2 (by rw [Lin.sub_den,Lin.num_den];omega)) (x:=d1 (.int .u8 (Lin.num 0))) (trivial : Tm.lt κ.n []) (by simp [d1,DV.den,D1.den,DC.den,one]) h1
  ·cases ht
 split at h
 ·rename_i hc
  rw [Bool.and_eq_true] at hc
  obtain ⟨a0,a1⟩:=inK_ok hκ hc.1
  obtain ⟨b0,b1⟩:=inK_ok hκ hc.2
  obtain ⟨r1,r2,r3⟩:=bits_and a0 a1 b0 b1
  refine freshD_got hκ (fun l hl=>?_) (fun l hl=>?_) h
  ·simp only [List.mem_cons,List.not_mem_nil,or_false] at hl
   rcases hl with rfl | rfl | rfl
   ·exact var_lt1 _
   ·exact Lin.sub_lt (lt1 ha) (var_lt1 _)
   ·exact Lin.sub_lt (lt1 hb) (var_lt1 _)
  ·simp only [List.mem_cons,List.not_mem_nil,or_false] at hl
   rcases hl with rfl | rfl | rfl
   ·rw [new_den];exact r1
   ·rw [Lin.sub_den,new_den,old_den ha];omega
   ·rw [Lin.sub_den,new_den,old_den hb];omega
 ·obtain ⟨h1,h2⟩:=bits_in .and (.inl rfl) k (a.den ρ.i) (b.den ρ.i)
  exact anyD_got hκ h1 h2 h
theorem orD_got {κ : Kn} {ρ : Vl} {kk : Kn -> DV -> Bool} {k : IntKind} {a b : Lin} (hκ : κ.Ok ρ) (ha : a.lt κ.n) (hb : b.lt κ.n) (h : orD k a b κ kk = true) : Got κ ρ kk (mkI k false (bits .or k (a.den ρ.i) (b.den ρ.i))):=by
 unfold orD at h
 split at h
 ·rename_i hc
  rw [Bool.and_eq_true] at hc
  obtain ⟨a0,a1⟩:=inK_ok hκ hc.1
  obtain ⟨b0,b1⟩:=inK_ok hκ hc.2
  obtain ⟨r1,r2,r3⟩:=bits_or a0 a1 b0 b1
  obtain ⟨_,r4⟩:=bits_in .or (.inr (.inl rfl)) k (a.den ρ.i) (b.den ρ.i)
  obtain ⟨u1,u2⟩:=ubC_ok (l:=a.add b) hκ (show bits .or k (a.den ρ.i) (b.den ρ.i) <= (a.add b).den ρ.i by rw [Lin.add_den];exact r3)
  refine freshD_got hκ (fun l hl=>(List.mem_append.1 hl).elim (fun hl=>?_) (u1 l)) (fun l hl=>(List.mem_append.1 hl).elim (fun hl=>?_) (u2 l)) h
  ·simp only [List.mem_cons,List.not_mem_nil,or_false] at hl
   rcases hl with rfl | rfl | rfl | rfl
   ·exact Lin.sub_lt (var_lt1 _) (lt1 ha)
   ·exact Lin.sub_lt (var_lt1 _) (lt1 hb)
   ·exact Lin.sub_lt (Lin.add_lt (lt1 ha) (lt1 hb)) (var_lt1 _)
   ·exact Lin.sub_lt (Lin.num_lt _ _) (var_lt1 _)
  ·simp only [List.mem_cons,List.not_mem_nil,or_false] at hl
   rcases hl with rfl | rfl | rfl | rfl
   ·rw [Lin.sub_den,new_den,old_den ha];omega
   ·rw [Lin.sub_den,new_den,old_den hb];omega
   ·rw [Lin.sub_den,new_den,Lin.add_den,old_den ha,old_den hb];omega
   ·rw [Lin.sub_den,new_den,Lin.num_den];omega
 ·obtain ⟨h1,h2⟩:=bits_in .or (.inr (.inl rfl)) k (a.den ρ.i) (b.den ρ.i)
  exact anyD_got hκ h1 h2 h
def divD (k : IntKind) (m : Int) (a : Lin) (κ : Kn) (kk : Kn -> DV -> Bool) : Bool:=
 freshD k [a.sub (Lin.mulc m (.var κ.n)),((Lin.mulc m (.var κ.n)).addc (m - 1)).sub a] κ kk
theorem divD_got {κ : Kn} {ρ : Vl} {kk : Kn -> DV -> Bool} {k : IntKind} {a : Lin} {m : Int} (hκ : κ.Ok ρ) (ha : a.lt κ.n) (hm : 0 < m) (h : divD k m a κ kk = true) : Got κ ρ kk (mkI k false (a.den ρ.i / m)):=by
 have h1:=Int.mul_ediv_add_emod (a.den ρ.i) m
 have h2:=Int.emod_nonneg (a.den ρ.i) (show m ≠ 0 by omega)
 have h3:=Int.emod_lt_of_pos (a.den ρ.i) hm
 refine freshD_got hκ (fun l hl=>?_) (fun l hl=>?_) h
 ·simp only [List.mem_cons,List.not_mem_nil,or_false] at hl
  rcases hl with rfl | rfl
  ·exact Lin.sub_lt (lt1 ha) (Lin.mulc_lt (var_lt1 _))
  ·exact Lin.sub_lt (Lin.addc_lt (Lin.mulc_lt (var_lt1 _))) (lt1 ha)
 ·simp only [List.mem_cons,List.not_mem_nil,or_false] at hl
  rcases hl with rfl | rfl
  ·rw [Lin.sub_den,Lin.mulc_den,new_den,old_den ha];omega
  ·rw [Lin.sub_den,Lin.addc_den,Lin.mulc_den,new_den,old_den ha];omega
def remD (k : IntKind) (m : Int) (a : Lin) (κ : Kn) (kk : Kn -> DV -> Bool) : Bool:=
 kk (κ.newC [a.sub (Lin.mulc m (.var κ.n)),((Lin.mulc m (.var κ.n)).addc (m - 1)).sub a,.var κ.n]) (d1 (.int k (a.sub (Lin.mulc m (.var κ.n)))))
theorem remD_got {κ : Kn} {ρ : Vl} {kk : Kn -> DV -> Bool} {k : IntKind} {a : Lin} {m : Int} (hκ : κ.Ok ρ) (ha : a.lt κ.n) (hm : 0 < m) (a0 : 0 <= a.den ρ.i) (h : remD k m a κ kk = true) : Got κ ρ kk (mkI k false (a.den ρ.i % m)):=by
 have h1:=Int.mul_ediv_add_emod (a.den ρ.i) m
 have h2:=Int.emod_nonneg (a.den ρ.i) (show m ≠ 0 by omega)
 have h3:=Int.emod_lt_of_pos (a.den ρ.i) hm
 have h4 : 0 <= a.den ρ.i / m:=Int.ediv_nonneg a0 (by omega)
 have g : Gr κ (κ.newC [a.sub (Lin.mulc m (.var κ.n)),((Lin.mulc m (.var κ.n)).addc (m - 1)).sub a,.var κ.n]) ρ (ρ.seti κ.n (a.den ρ.i / m)):=by
  refine newC_gr hκ (fun l hl=>?_) (fun l hl=>?_)
  ·simp only [List.mem_cons,List.not_mem_nil,or_false] at hl
   rcases hl with rfl | rfl | rfl
   ·exact Lin.sub_lt (lt1 ha) (Lin.mulc_lt (var_lt1 _))
   ·exact Lin.sub_lt (Lin.addc_lt (Lin.mulc_lt (var_lt1 _))) (lt1 ha)
   ·exact var_lt1 _
  ·simp only [List.mem_cons,List.not_mem_nil,or_false] at hl
   rcases hl with rfl | rfl | rfl
   ·rw [Lin.sub_den,Lin.mulc_den,new_den,old_den ha];omega
   ·rw [Lin.sub_den,Lin.addc_den,Lin.mulc_den,new_den,old_den ha];omega
   ·rw [new_den];exact h4
 refine mkI_any g (x:=d1 (.int k (a.sub (Lin.mulc m (.var κ.n))))) (Lin.sub_lt (lt1 ha) (Lin.mulc_lt (var_lt1 _))) ?_ h
 simp only [d1,DV.den,D1.den,DC.den,one]
 rw [Lin.sub_den,Lin.mulc_den,new_den,old_den ha]
 congr 3
 omega
theorem two_pow_pos (n : Nat) : (0 : Int) < 2 ^ n:=Int.pow_pos (by decide)
def isC (a : Lin) : Bool:=match a.t with
 | []=>true
 | _=>false
theorem isC_den {a : Lin} (h : isC a = true) (ρ : Val) : a.den ρ = a.c:=by
 unfold isC at h
 split at h
 ·rename_i ht;simp [Lin.den,ht,Tm.den]
 ·cases h
def DV.int? : DV -> Option (IntKind × Lin × Bool)
 | .s (.c (.num k n))=>some (k,Lin.num n,true)
 | .s (.c (.int k e))=>some (k,e,false)
 | _=>none
theorem DV.int?_den {x : DV} {k : IntKind} {e : Lin} {c : Bool} (h : x.int? = some (k,e,c)) (ρ : Vl) : (x.den ρ).int? = some (k,e.den ρ.i,c):=by
 unfold DV.int? at h
 split at h
 ·cases h;simp [DV.den,D1.den,DC.den,SV.int?]
 ·cases h;simp [DV.den,D1.den,DC.den,SV.int?]
 ·cases h
theorem DV.int?_lt {x : DV} {k : IntKind} {e : Lin} {c : Bool} (h : x.int? = some (k,e,c)) {n : Nat} (hx : x.lt n) : e.lt n:=by
 unfold DV.int? at h
 split at h
 ·cases h;trivial
 ·cases h;exact hx
 ·cases h
theorem DV.int?_lit {x : DV} {k : IntKind} {e : Lin} (h : x.int? = some (k,e,true)) : e = Lin.num e.c:=by
 unfold DV.int? at h
 split at h
 ·cases h;rfl
 ·cases h
 ·cases h
theorem need_got {κ : Kn} {ρ : Vl} {kk : Kn -> DV -> Bool} {c : Bool} {p : Prop} [Decidable p] {o : Out SV} (hp : p) (h : Got κ ρ kk o) : Got κ ρ kk (need c p o):=by
 unfold need
 cases c
 ·exact ⟨⟨hp⟩,h⟩
 ·rw [if_pos hp];exact h
def litD (o : Out SV) (κ : Kn) (kk : Kn -> DV -> Bool) : Bool:=
 match o with
 | .ret (.s (.c (.num k n)))=>kk κ (d1 (.num k n))
 | .ret (.s (.c (.tru b)))=>kk κ (d1 (.tru b))
 | _=>false
theorem litD_got {κ : Kn} {ρ : Vl} {kk : Kn -> DV -> Bool} {o : Out SV} (hκ : κ.Ok ρ) (h : litD o κ kk = true) : Got κ ρ kk o:=by
 unfold litD at h
 split at h
 ·exact Got.ret (x:=d1 (.num _ _)) h hκ trivial
 ·exact Got.ret (x:=d1 (.tru _)) h hκ trivial
 ·cases h
def tT : DV:=d1 (.tru true)
def tF : DV:=d1 (.tru false)
def intD (op : BinOp) (k k' : IntKind) (a b : Lin) (κ : Kn) (kk : Kn -> DV -> Bool) : Bool:=
 match op with
 | .shl=>if isC b then nnI b.c && wrapD k (Lin.mulc (2 ^ min b.c.toNat k.bits) a) κ kk else κ.has b && anyD k k.min k.max κ kk
 | .shr=>if isC b then nnI b.c && divD k (2 ^ min b.c.toNat k.bits) a κ kk else κ.has b && (κ.has a && freshD k [.var κ.n,a.sub (.var κ.n)] κ kk)
 | .quo=>decide (k = k') && (isC b && (posI b.c && (inK k a κ && divD k b.c a κ kk)))
 | .rem=>decide (k = k') && (isC b && (posI b.c && (κ.has a && remD k b.c a κ kk)))
 | .add=>decide (k = k') && wrapD k (a.add b) κ kk
 | .sub=>decide (k = k') && wrapD k (a.sub b) κ kk
 | .mul=>decide (k = k') && (if isC a then wrapD k (Lin.mulc a.c b) κ kk else if isC b then wrapD k (Lin.mulc b.c a) κ kk else anyD k k.min k.max κ kk)
 | .and=>decide (k = k') && andD k a b κ kk
 | .or=>decide (k = k') && orD k a b κ kk
 | .xor=>decide (k = k') && anyD k k.min k.max κ kk
 | .andNot=>decide (k = k') && anyD k k.min k.max κ kk
 | .lss=>decide (k = k') && brD ((b.sub a).addc (-1)) (a.sub b) tT tF κ kk
 | .leq=>decide (k = k') && brD (b.sub a) ((a.sub b).addc (-1)) tT tF κ kk
 | .gtr=>decide (k = k') && brD ((a.sub b).addc (-1)) (b.sub a) tT tF κ kk
 | .geq=>decide (k = k') && brD (a.sub b) ((b.sub a).addc (-1)) tT tF κ kk
 | .eql=>decide (k = k') && eqD a b tT tF κ kk
 | .neq=>decide (k = k') && eqD a b tF tT κ kk
theorem intD_got {κ : Kn} {ρ : Vl} {kk : Kn -> DV -> Bool} {op : BinOp} {k k' : IntKind} {a b : Lin} {ca cb : Bool} (hκ : κ.Ok ρ) (ha : a.lt κ.n) (hb : b.lt κ.n) (hc : (ca && cb) = false) (h : intD op k k' a b κ kk = true) :
  Got κ ρ kk (intOut op k k' (a.den ρ.i) (b.den ρ.i) ca cb):=by
 have hT : tT.lt κ.n:=trivial
 have hF : tF.lt κ.n:=trivial
 cases op <;> simp only [intD] at h <;> (try rw [Bool.and_eq_true,decide_eq_true_eq] at h) <;> (try obtain ⟨hk,h⟩:=h) <;> (try subst hk) <;> simp only [intOut,arith,cmpO,if_true,hc,Bool.false_eq_true,if_false]
 case add=>have:=wrapD_got hκ (Lin.add_lt ha hb) h;rw [Lin.add_den] at this;exact this
 case sub=>have:=wrapD_got hκ (Lin.sub_lt ha hb) h;rw [Lin.sub_den] at this;exact this
 case mul=>
  split at h
  ·rename_i e
   have:=wrapD_got hκ (Lin.mulc_lt hb) h
   rw [Lin.mulc_den] at this
   rw [isC_den e];exact this
  ·split at h
   ·rename_i e
    have:=wrapD_got hκ (Lin.mulc_lt ha) h
    rw [Lin.mulc_den] at this
    rw [isC_den e,Int.mul_comm];exact this
   ·obtain ⟨h1,h2⟩:=wrap_in k (a.den ρ.i * b.den ρ.i)
    exact anyD_got hκ h1 h2 h
 case and=>exact andD_got hκ ha hb h
 case or=>exact orD_got hκ ha hb h
 case xor=>obtain ⟨h1,h2⟩:=bits_in .xor (.inr (.inr (.inl rfl))) k (a.den ρ.i) (b.den ρ.i);exact anyD_got hκ h1 h2 h
 case andNot=>obtain ⟨h1,h2⟩:=bits_in .andNot (.inr (.inr (.inr rfl))) k (a.den ρ.i) (b.den ρ.i);exact anyD_got hκ h1 h2 h
 case quo=>
  simp only [Bool.and_eq_true] at h
  obtain ⟨e,hp,hin,h⟩:=h
  obtain ⟨a0,a1⟩:=inK_ok hκ hin
  have hpos:=posI_ok hp
  rw [isC_den e]
  refine need_got (by omega) ?_
  have h1 : (a.den ρ.i).tdiv b.c = a.den ρ.i / b.c:=Int.tdiv_eq_ediv_of_nonneg a0
  have h2 : 0 <= a.den ρ.i / b.c:=Int.ediv_nonneg a0 (by omega)
  have h3 : a.den ρ.i / b.c <= a.den ρ.i:=Int.ediv_le_self _ a0
  have hn:=min_neg k
  rw [h1,wrap_fit (by omega) (by omega)]
  exact divD_got hκ ha hpos h
 case rem=>
  simp only [Bool.and_eq_true] at h
  obtain ⟨e,hp,hin,h⟩:=h
  have a0:=Kn.has_ok hκ hin
  have hpos:=posI_ok hp
  rw [isC_den e]
  refine need_got (by omega) ?_
  rw [Int.tmod_eq_emod_of_nonneg a0]
  exact remD_got hκ ha hpos a0 h
 case shl=>
  split at h
  ·rename_i e
   rw [Bool.and_eq_true] at h
   rw [isC_den e]
   refine need_got (nnI_ok h.1) ?_
   have:=wrapD_got hκ (Lin.mulc_lt ha) h.2
   rw [Lin.mulc_den,Int.mul_comm] at this
   exact this
  ·rw [Bool.and_eq_true] at h
   refine need_got (Kn.has_ok hκ h.1) ?_
   obtain ⟨h1,h2⟩:=wrap_in k (a.den ρ.i * 2 ^ min (b.den ρ.i).toNat k.bits)
   exact anyD_got hκ h1 h2 h.2
 case shr=>
  split at h
  ·rename_i e
   rw [Bool.and_eq_true] at h
   rw [isC_den e]
   exact need_got (nnI_ok h.1) (divD_got hκ ha (two_pow_pos _) h.2)
  ·simp only [Bool.and_eq_true] at h
   have a0:=Kn.has_ok hκ h.2.1
   refine need_got (Kn.has_ok hκ h.1) ?_
   have hp:=two_pow_pos (min (b.den ρ.i).toNat k.bits)
   have h2 : 0 <= a.den ρ.i / 2 ^ min (b.den ρ.i).toNat k.bits:=Int.ediv_nonneg a0 (by omega)
   have h3 : a.den ρ.i / 2 ^ min (b.den ρ.i).toNat k.bits <= a.den ρ.i:=Int.ediv_le_self _ a0
   refine freshD_got hκ (fun l hl=>?_) (fun l hl=>?_) h.2.2
   ·simp only [List.mem_cons,List.not_mem_nil,or_false] at hl
    rcases hl with rfl | rfl
    ·exact var_lt1 _
    ·exact Lin.sub_lt (lt1 ha) (var_lt1 _)
   ·simp only [List.mem_cons,List.not_mem_nil,or_false] at hl
    rcases hl with rfl | rfl
    ·rw [new_den];exact h2
    ·rw [Lin.sub_den,new_den,old_den ha];omega
 case lss=>exact brD_got hκ (Lin.addc_lt (Lin.sub_lt hb ha)) (Lin.sub_lt ha hb) hT hF (by rw [Lin.addc_den,Lin.sub_den];omega) (by rw [Lin.sub_den];omega) h
 case leq=>exact brD_got hκ (Lin.sub_lt hb ha) (Lin.addc_lt (Lin.sub_lt ha hb)) hT hF (by rw [Lin.sub_den];omega) (by rw [Lin.addc_den,Lin.sub_den];omega) h
 case gtr=>exact brD_got hκ (Lin.addc_lt (Lin.sub_lt ha hb)) (Lin.sub_lt hb ha) hT hF (by rw [Lin.addc_den,Lin.sub_den];omega) (by rw [Lin.sub_den];omega) h
 case geq=>exact brD_got hκ (Lin.sub_lt ha hb) (Lin.addc_lt (Lin.sub_lt hb ha)) hT hF (by rw [Lin.sub_den];omega) (by rw [Lin.addc_den,Lin.sub_den];omega) h
 case eql=>exact eqD_got hκ ha hb hT hF h
 case neq=>exact eqD_got hκ ha hb hF hT h
end
end Vx
namespace Vx
noncomputable section
open Go Zx
theorem DV.int?_none {x : DV} (h : x.int? = none) (ρ : Vl) : (x.den ρ).int? = none:=by
 cases x with
 | s x=>cases x with
  | c x=>cases x <;> first | (simp [DV.int?] at h;done) | rfl | (simp only [DV.den,D1.den,DC.den];repeat' split) <;> rfl
  | a cs=>rfl
 | t xs=>rfl
 | u=>rfl
def DV.bool? : DV -> Option (DC × Bool)
 | .s (.c (.tru b))=>some (.tru b,true)
 | .s (.c (.boo p v))=>some (.boo p v,false)
 | _=>none
def bV (ρ : Vl) : DC -> Bool
 | .tru b=>b
 | .boo p v=>p == decide (ρ.i v = 1)
 | _=>false
theorem DV.bool?_den {x : DV} {c : DC} {q : Bool} (h : x.bool? = some (c,q)) (ρ : Vl) : (x.den ρ).bool? = some (bV ρ c,q):=by
 unfold DV.bool? at h
 split at h
 ·cases h;rfl
 ·cases h;rfl
 ·cases h
theorem DV.bool?_none {x : DV} (h : x.bool? = none) (ρ : Vl) : (x.den ρ).bool? = none:=by
 cases x with
 | s x=>cases x with
  | c x=>cases x <;> first | (simp [DV.bool?] at h;done) | rfl | (simp only [DV.den,D1.den,DC.den];repeat' split) <;> rfl
  | a cs=>rfl
 | t xs=>rfl
 | u=>rfl
def DV.ptr? : DV -> Option Bool
 | .s (.c .nil)=>some false
 | .s (.c (.zp _ _ _))=>some true
 | _=>none
theorem DV.ptr?_den {x : DV} {b : Bool} (h : x.ptr? = some b) (ρ : Vl) : (x.den ρ).ptr? = some b:=by
 unfold DV.ptr? at h
 split at h
 ·cases h;rfl
 ·cases h
  simp only [DV.den,D1.den,DC.den]
  split <;> rfl
 ·cases h
def sameBo : DC -> DC -> Bool
 | .boo true v,.boo true u=>Nat.beq v u
 | _,_=>false
theorem sameBo_ok {a b : DC} (h : sameBo a b = true) : a = b:=by
 unfold sameBo at h
 split at h
 ·rw [Nat.eq_of_beq_eq_true h]
 ·cases h
def boolD (op : BinOp) (a b : DC) (c : Bool) (κ : Kn) (kk : Kn -> DV -> Bool) : Bool:=
 match c,a,b with
 | true,.tru a,.tru b=>litD (boolOut op a b true) κ kk
 | false,_,_=>match op with
  | .eql=>kk κ tT && (sameBo a b || kk κ tF)
  | .neq=>(sameBo a b || kk κ tT) && kk κ tF
  | _=>false
 | _,_,_=>false
theorem boolD_got {κ : Kn} {ρ : Vl} {kk : Kn -> DV -> Bool} {op : BinOp} {a b : DC} {c : Bool} (hκ : κ.Ok ρ) (h : boolD op a b c κ kk = true) : Got κ ρ kk (boolOut op (bV ρ a) (bV ρ b) c):=by
 unfold boolD at h
 split at h
 ·exact litD_got hκ h
 ·split at h
  ·rw [Bool.and_eq_true,Bool.or_eq_true] at h
   refine ⟨fun _=>Got.ret h.1 hκ trivial,fun hn=>?_⟩
   rcases h.2 with h2 | h2
   ·exact absurd (by rw [sameBo_ok h2]) hn
   ·exact Got.ret h2 hκ trivial
  ·rw [Bool.and_eq_true,Bool.or_eq_true] at h
   refine ⟨fun _=>Got.ret h.2 hκ trivial,fun hn=>?_⟩
   rcases h.1 with h2 | h2
   ·exact absurd (by rw [sameBo_ok h2]) hn
   ·exact Got.ret h2 hκ trivial
  ·cases h
 ·cases h
def DV.isStr : DV -> Bool
 | .s (.c (.str _))=>true
 | .s (.c (.strL _))=>true
 | _=>false
def binD (P : Program) (op : BinOp) (t : TypeId) (x y : DV) (κ : Kn) (kk : Kn -> DV -> Bool) : Bool:=
 match x.int?,y.int? with
 | some (k,a,ca),some (k',b,cb)=>if ca && cb then litD (intOut op k k' a.c b.c ca cb) κ kk else intD op k k' a b κ kk
 | _,_=>match x.bool?,y.bool? with
  | some (a,ca),some (b,cb)=>match P.underlying t with
   | some .bool=>boolD op a b (ca && cb) κ kk
   | _=>false
  | _,_=>match x.ptr?,y.ptr? with
   | some a,some b=>match P.underlying t with
    | some (.pointer _)=>litD (ptrOut op a b) κ kk
    | _=>false
   | _,_=>false
theorem binD_got {κ : Kn} {ρ : Vl} {kk : Kn -> DV -> Bool} {P : Program} {op : BinOp} {t : TypeId} {x y : DV} (hκ : κ.Ok ρ) (hx : x.lt κ.n) (hy : y.lt κ.n) (h : binD P op t x y κ kk = true) : Got κ ρ kk (binOut P op t (x.den ρ) (y.den ρ)):=by
 unfold binD at h
 unfold binOut
 split at h
 ·rename_i k a ca k' b cb ha hb
  rw [DV.int?_den ha ρ,DV.int?_den hb ρ]
  simp only []
  split at h
  ·rename_i hc
   have hc':=hc
   rw [Bool.and_eq_true] at hc'
   obtain ⟨rfl,rfl⟩:=hc'
   have e1:=DV.int?_lit ha
   have e2:=DV.int?_lit hb
   have d1 : a.den ρ.i = a.c:=by rw [e1];simp [Lin.num,Lin.den,Tm.den]
   have d2 : b.den ρ.i = b.c:=by rw [e2];simp [Lin.num,Lin.den,Tm.den]
   rw [d1,d2]
   exact litD_got hκ h
  ·rename_i hc
   exact intD_got hκ (DV.int?_lt ha hx) (DV.int?_lt hb hy) (by simpa using hc) h
 ·rename_i hno
  have hnn : ∀ k a ca k' b cb,¬((x.den ρ).int? = some (k,a,ca) /\ (y.den ρ).int? = some (k',b,cb)):=fun k a ca k' b cb ⟨q1,q2⟩=>by
   cases hx' : x.int? with
   | none=>rw [DV.int?_none hx' ρ] at q1;cases q1
   | some p=>cases hy' : y.int? with
    | none=>rw [DV.int?_none hy' ρ] at q2;cases q2
    | some q=>exact hno p.1 p.2.1 p.2.2 q.1 q.2.1 q.2.2 hx' hy'
  split
  ·rename_i q1 q2;exact (hnn _ _ _ _ _ _ ⟨q1,q2⟩).elim
  ·split at h
   ·rename_i a ca b cb ha hb
    rw [DV.bool?_den ha ρ,DV.bool?_den hb ρ]
    simp only []
    split at h
    ·rename_i hu
     rw [hu]
     exact boolD_got hκ h
    ·cases h
   ·rename_i hnb
    have hbb : ∀ a ca b cb,¬((x.den ρ).bool? = some (a,ca) /\ (y.den ρ).bool? = some (b,cb)):=fun a ca b cb ⟨q1,q2⟩=>by
     cases hx' : x.bool? with
     | none=>rw [DV.bool?_none hx' ρ] at q1;cases q1
     | some p=>cases hy' : y.bool? with
      | none=>rw [DV.bool?_none hy' ρ] at q2;cases q2
      | some q=>exact hnb p.1 p.2 q.1 q.2 hx' hy'
    split
    ·rename_i q1 q2;exact (hbb _ _ _ _ ⟨q1,q2⟩).elim
    ·split at h
     ·rename_i a b ha hb
      rw [DV.ptr?_den ha,DV.ptr?_den hb]
      simp only []
      split at h
      ·rename_i e hu
       rw [hu]
       exact litD_got hκ h
      ·cases h
     ·cases h
def notD (v : Nat) (κ : Kn) (kk : Kn -> DV -> Bool) : Bool:=
 match κ.has (Lin.var v) && κ.has ((Lin.num 1).sub (Lin.var v)) with
 | true=>kk (κ.newC [(Lin.num 1).sub ((Lin.var κ.n).add (Lin.var v)),((Lin.var κ.n).add (Lin.var v)).addc (-1),Lin.var κ.n,(Lin.num 1).sub (Lin.var κ.n)]) (d1 (.boo true κ.n))
 | false=>kk κ (d1 (.boo false v))
theorem notD_got {κ : Kn} {ρ : Vl} {kk : Kn -> DV -> Bool} {v : Nat} (hκ : κ.Ok ρ) (hx : v < κ.n) (h : notD v κ kk = true) : Got κ ρ kk (.ret (one (.boo (!(decide (ρ.i v = 1)))))):=by
 unfold notD at h
 split at h
 ·rename_i hc
  rw [Bool.and_eq_true] at hc
  have h1:=Kn.has_ok hκ hc.1
  have h2:=Kn.has_ok hκ hc.2
  rw [Lin.sub_den,Lin.num_den,Lin.var_den] at h2
  rw [Lin.var_den] at h1
  have hv : (Lin.var v).lt κ.n:=Lin.var_lt hx
  have hn : (Lin.var κ.n).lt (κ.n + 1):=var_lt1 _
  have ho : (Lin.var v).den (ρ.seti κ.n (1 - ρ.i v)).i = ρ.i v:=by rw [old_den hv,Lin.var_den]
  have hw : (Lin.var κ.n).den (ρ.seti κ.n (1 - ρ.i v)).i = 1 - ρ.i v:=new_den _ _ _
  refine ⟨_,_,ρ.seti κ.n (1 - ρ.i v),h,newC_gr hκ (fun l hl=>?_) (fun l hl=>?_),Nat.lt_succ_self _, ?_⟩
  ·simp only [List.mem_cons,List.not_mem_nil,or_false] at hl
   rcases hl with rfl | rfl | rfl | rfl
   ·exact Lin.sub_lt (Lin.num_lt _ _) (Lin.add_lt hn (lt1 hv))
   ·exact Lin.addc_lt (Lin.add_lt hn (lt1 hv))
   ·exact hn
   ·exact Lin.sub_lt (Lin.num_lt _ _) hn
  ·simp only [List.mem_cons,List.not_mem_nil,or_false] at hl
   rcases hl with rfl | rfl | rfl | rfl
   ·rw [Lin.sub_den,Lin.num_den,Lin.add_den,hw,ho];omega
   ·rw [Lin.addc_den,Lin.add_den,hw,ho];omega
   ·rw [hw];omega
   ·rw [Lin.sub_den,Lin.num_den,hw];omega
  ·have e : (ρ.seti κ.n (1 - ρ.i v)).i κ.n = 1 - ρ.i v:=by simp [Vl.seti]
   simp only [d1,DV.den,D1.den,DC.den,one,e]
   congr 3
   have h0 : 0 <= ρ.i v:=h1
   have h3 : ρ.i v <= 1:=by omega
   have : ρ.i v = 0 \/ ρ.i v = 1:=by omega
   rcases this with h | h <;> simp [h]
 ·have h2:=Got.ret (ρ:=ρ) (x:=d1 (.boo false v)) h hκ hx
  have : (d1 (.boo false v)).den ρ = one (.boo (!(decide (ρ.i v = 1)))):=by
   simp only [d1,DV.den,D1.den,DC.den,one]
   congr 3
   cases decide (ρ.i v = 1) <;> rfl
  rw [this] at h2
  exact h2
def unD (op : UnOp) (x : DV) (κ : Kn) (kk : Kn -> DV -> Bool) : Bool:=
 match op with
 | .not=>match x with
  | .s (.c (.tru b))=>kk κ (d1 (.tru (!b)))
  | .s (.c (.boo true v))=>notD v κ kk
  | .s (.c (.boo false v))=>kk κ (d1 (.boo true v))
  | _=>false
 | .neg=>match x.int? with
  | some (k,e,true)=>litD (mkI k true (k.wrap (0 - e.c))) κ kk
  | some (k,e,false)=>wrapD k ((Lin.num 0).sub e) κ kk
  | none=>false
 | .xor=>match x.int? with
  | some (k,e,true)=>litD (mkI k true (bits .xor k (if k.signed then -1 else k.max) e.c)) κ kk
  | some (k,e,false)=>anyD k k.min k.max κ kk
  | none=>false
 | _=>false
theorem lit_den {x : DV} {k : IntKind} {e : Lin} (h : x.int? = some (k,e,true)) (ρ : Val) : e.den ρ = e.c:=by
 rw [DV.int?_lit h];simp [Lin.num,Lin.den,Tm.den]
theorem unD_got {κ : Kn} {ρ : Vl} {kk : Kn -> DV -> Bool} {op : UnOp} {x : DV} (hκ : κ.Ok ρ) (hx : x.lt κ.n) (h : unD op x κ kk = true) : Got κ ρ kk (unOut op (x.den ρ)):=by
 unfold unD at h
 unfold unOut
 split at h
 ·split at h
  ·exact Got.ret (x:=d1 (.tru _)) h hκ trivial
  ·rename_i v
   have:=notD_got hκ hx h
   have e : (d1 (.boo true v)).den ρ = one (.boo (decide (ρ.i v = 1))):=by
    simp only [d1,DV.den,D1.den,DC.den,one]
    congr 3
    cases decide (ρ.i v = 1) <;> rfl
   unfold d1 at e
   rw [e]
   exact this
  ·rename_i v
   have : (d1 (.boo true v)).den ρ = one (.boo (!(false == decide (ρ.i v = 1)))):=by
    simp only [d1,DV.den,D1.den,DC.den,one]
    congr 3
    cases decide (ρ.i v = 1) <;> rfl
   have h2:=Got.ret (ρ:=ρ) (x:=d1 (.boo true v)) h hκ hx
   rw [this] at h2
   exact h2
  ·cases h
 ·split at h
  ·rename_i k e he
   rw [DV.int?_den he ρ,lit_den he]
   exact litD_got hκ h
  ·rename_i k e he
   rw [DV.int?_den he ρ]
   have:=wrapD_got hκ (Lin.sub_lt (Lin.num_lt _ _) (DV.int?_lt he hx)) h
   rw [Lin.sub_den,Lin.num_den] at this
   exact this
  ·cases h
 ·split at h
  ·rename_i k e he
   rw [DV.int?_den he ρ,lit_den he]
   exact litD_got hκ h
  ·rename_i k e he
   rw [DV.int?_den he ρ]
   obtain ⟨h1,h2⟩:=bits_in .xor (.inr (.inr (.inl rfl))) k (if k.signed then -1 else k.max) (e.den ρ.i)
   exact anyD_got hκ h1 h2 h
  ·cases h
 ·cases h
def convD (P : Program) (src dst : TypeId) (x : DV) (κ : Kn) (kk : Kn -> DV -> Bool) : Bool:=
 match x.int?,P.underlying src,P.underlying dst with
 | some (_,e,true),some _,some (.int k)=>litD (mkI k true (k.wrap e.c)) κ kk
 | some (_,e,false),some _,some (.int k)=>wrapD k e κ kk
 | _,_,_=>false
theorem convD_got {κ : Kn} {ρ : Vl} {kk : Kn -> DV -> Bool} {P : Program} {s d : TypeId} {x : DV} (hκ : κ.Ok ρ) (hx : x.lt κ.n) (h : convD P s d x κ kk = true) : Got κ ρ kk (convOut P s d (x.den ρ)):=by
 unfold convD at h
 unfold convOut
 split at h
 ·rename_i k0 e td k he hs hd
  rw [DV.int?_den he ρ,hs,hd,lit_den he]
  exact litD_got hκ h
 ·rename_i k0 e td k he hs hd
  rw [DV.int?_den he ρ,hs,hd]
  exact wrapD_got hκ (DV.int?_lt he hx) h
 ·cases h
end
end Vx
namespace Vx
noncomputable section
open Go Zx
structure Keep (w w' : World) : Prop where
 size : w.heap.size <= w'.heap.size
 get : ∀ b,b < w.heap.size -> w'.heap[b]? = w.heap[b]?
theorem Keep.refl (w : World) : Keep w w:=⟨Nat.le_refl _,fun _ _=>rfl⟩
theorem Keep.trans {a b c : World} (h : Keep a b) (k : Keep b c) : Keep a c:=⟨Nat.le_trans h.size k.size,fun x hx=>(k.get x (Nat.lt_of_lt_of_le hx h.size)).trans (h.get x hx)⟩
theorem Keep.push {w w' : World} {o : Obj} (h : w'.heap = w.heap.push o) : Keep w w':=⟨by rw [h];simp,fun b hb=>by rw [h,Array.getElem?_push,if_neg (Nat.ne_of_lt hb)]⟩
abbrev Sig:=Nat -> Nat -> Option CS
def mu (sg : Sig) : Mu:=⟨fun _=>none,sg⟩
structure Cell where
 a : Nat
 o : Lin
 c : CS
 v : DC
structure Fct where
 old : Bool
 f : Atom
structure Ds where
 memo : List Cell
 adr : List (Nat × Nat)
 G : List Fct
structure Wt where
 W : List Nat
 Y : Option (List Nat)
def Wt.ys (W : Wt) : List Nat:=match W.Y with
 | some l=>l
 | none=>[]
def Wt.hasY (W : Wt) : Bool:=match W.Y with
 | some _=>true
 | none=>false
structure Ent where
 w : World
 sg : Sig
 W : Wt
 own : Nat -> Prop
def Ent.ow (E : Ent) (b : Nat) : Prop:=E.W.hasY = true /\ E.own b
def Ent.yg (E : Ent) (x : Int) : Prop:=(E.w.heap.size : Int) <= x \/ ∃ b : Nat,x = (b : Int) /\ E.ow b
abbrev Ent.none (w : World) (sg : Sig) (W : List Nat) : Ent:=⟨w,sg,⟨W,Option.none⟩,fun _=>False⟩
theorem Ent.none_ow {w : World} {sg : Sig} {W : List Nat} {b : Nat} : ¬(Ent.none w sg W).ow b:=fun h=>h.2
structure Frm (E : Ent) (sg : Sig) (w : World) : Prop where
 size : E.w.heap.size <= w.heap.size
 os : w.os = E.w.os
 tape : w.tape = E.w.tape
 output : w.output = E.w.output
 sig : ∀ b o,b < E.w.heap.size -> sg b o = E.sg b o
 keep : ∀ b,b < E.w.heap.size -> w.heap[b]? = E.w.heap[b]? \/ ∃ (cur cur' : Array Value) (t : TF),E.w.heap[b]? = some (.cells cur t.1 t.2) /\ w.heap[b]? = some (.cells cur' t.1 t.2) /\ cur'.size = cur.size ∧
  ∀ o,(∀ c,E.sg b o = some c -> c.tag ∉ E.W.W /\ (E.ow b -> c.tag ∉ E.W.ys)) -> cur'[o]? = cur[o]?
def Cell.ok (sg : Sig) (ρ : Vl) (w : World) (m : Cell) : Prop:=
 0 <= m.o.den ρ.i /\ ∃ (b : Nat) (t : TF) (cur : Array Value) (v : Value),(ρ.a m.a).1 = (b : Int) /\ w.heap[b]? = some (.cells cur t.1 t.2) /\ cur[(ρ.a m.a).2 + (m.o.den ρ.i).toNat]? = some v /\ sg b ((ρ.a m.a).2 + (m.o.den ρ.i).toNat) = some m.c /\ (m.v.den ρ).ok (mu sg) v
structure Cell.lt (n : Nat) (m : Cell) : Prop where
 a : m.a < n
 o : m.o.lt n
 v : m.v.lt n
theorem Frm.refl {sg : Sig} {w : World} {W : Wt} {ow : Nat -> Prop} : Frm ⟨w,sg,W,ow⟩ sg w:=⟨Nat.le_refl _,rfl,rfl,rfl,fun _ _ _=>rfl,fun _ _=>.inl rfl⟩
def allB {α : Type} (f : α -> Bool) : List α -> Bool
 | []=>true
 | a :: l=>f a && allB f l
theorem allB_ok {α : Type} {f : α -> Bool} : ∀ {l : List α},allB f l = true -> ∀ a ∈ l,f a = true
 | [],_,a,ha=>by cases ha
 | b :: l,h,a,ha=>by
  simp only [allB,Bool.and_eq_true] at h
  rcases List.mem_cons.1 ha with rfl | ha
  ·exact h.1
  ·exact allB_ok h.2 a ha
end
end Vx
namespace Vx
noncomputable section
open Go Zx
def atomT (id : Nat) : List Nat:=if id = 217 \/ id = 2170 then [275] else if id = 218 \/ id = 2180 then [18] else []
def rowAt (st f g : Nat) (P : Int -> Prop) (a : Option Addr) (i : Nat) (sg : Sig) (w : World) : Prop:=∃ (b o : Nat) (cur : Array Value) (t : TF) (a' : Option Addr) (m c nm mx : Nat),a = some ⟨b,o,none⟩ /\ w.heap[b]? = some (.cells cur t.1 t.2) /\ cur[o + i * st + f]? = some (.slice a' m c) /\ P m /\ sg b (o + i * st + f) = some (.sli g nm mx)
def rowTo (st f g : Nat) (P : Int -> Int -> Prop) (vs : List Value) (sg : Sig) (w : World) : Prop:=match vs with
 | [.slice a n _,.int _ k,.int _ j]=>j <= (n : Int) /\ ∀ i : Nat,(i : Int) < j -> rowAt st f g (P k) a i sg w
 | _=>False
def rowAll (st f g : Nat) (P : Int -> Int -> Prop) (vs : List Value) (sg : Sig) (w : World) : Prop:=match vs with
 | [.slice a n _,.int _ k]=>∀ i : Nat,i < n -> rowAt st f g (P k) a i sg w
 | _=>False
def isLen (k m : Int) : Prop:=m = k
def atMost (k m : Int) : Prop:=m <= k
def atomW (id : Nat) (vs : List Value) (sg : Sig) (w : World) : Prop:=if id = 217 then rowTo 5 2 275 isLen vs sg w else if id = 2170 then rowAll 5 2 275 isLen vs sg w else if id = 218 then rowTo 4 3 18 atMost vs sg w else if id = 2180 then rowAll 4 3 18 atMost vs sg w else True
theorem rowAt_keep {st f g : Nat} {P : Int -> Prop} {a : Option Addr} {i : Nat} {sg sg' : Sig} {w w' : World} {T : List Nat} (h : rowAt st f g P a i sg w) (hg : Grows sg sg') (hf : Frm (Ent.none w sg T) sg' w') (hT : g ∉ T) : rowAt st f g P a i sg' w':=by
 obtain ⟨b,o,cur,t,a',m,c,nm,mx,h1,h2,h3,h4,h5⟩:=h
 have hb : b < w.heap.size:=(Array.getElem?_eq_some_iff.mp h2).1
 rcases hf.keep b hb with e | ⟨cur1,cur2,t',e1,e2,_,e4⟩
 ·exact ⟨b,o,cur,t,a',m,c,nm,mx,h1,by rw [e];exact h2,h3,h4,hg _ _ _ h5⟩
 ·obtain ⟨rfl,rfl⟩:=cells_inj h2 e1
  refine ⟨b,o,cur2,t,a',m,c,nm,mx,h1,e2, ?_,h4,hg _ _ _ h5⟩
  rw [e4 (o + i * st + f) fun c' hc'=>?_]
  ·exact h3
  ·have hc2 : sg b (o + i * st + f) = some c':=hc'
   rw [h5] at hc2
   cases hc2
   exact ⟨hT,fun h=>absurd h Ent.none_ow⟩
theorem rowTo_keep {st f g : Nat} {P : Int -> Int -> Prop} {vs : List Value} {sg sg' : Sig} {w w' : World} {T : List Nat} (h : rowTo st f g P vs sg w) (hg : Grows sg sg') (hf : Frm (Ent.none w sg T) sg' w') (hT : g ∉ T) : rowTo st f g P vs sg' w':=by
 unfold rowTo at h
 split at h
 ·exact ⟨h.1,fun i hi=>rowAt_keep (h.2 i hi) hg hf hT⟩
 ·exact h.elim
theorem rowAll_keep {st f g : Nat} {P : Int -> Int -> Prop} {vs : List Value} {sg sg' : Sig} {w w' : World} {T : List Nat} (h : rowAll st f g P vs sg w) (hg : Grows sg sg') (hf : Frm (Ent.none w sg T) sg' w') (hT : g ∉ T) : rowAll st f g P vs sg' w':=by
 unfold rowAll at h
 split at h
 ·exact fun i hi=>rowAt_keep (h i hi) hg hf hT
 ·exact h.elim
theorem atomW_keep {id : Nat} {vs : List Value} {sg sg' : Sig} {w w' : World} {T : List Nat} (h : atomW id vs sg w) (hg : Grows sg sg') (hf : Frm (Ent.none w sg T) sg' w') (hT : ∀ g ∈ atomT id,g ∉ T) : atomW id vs sg' w':=by
 unfold atomW at h ⊢
 by_cases e1 : id = 217
 ·subst e1
  rw [if_pos rfl] at h ⊢
  exact rowTo_keep h hg hf (hT 275 (List.mem_singleton.mpr rfl))
 rw [if_neg e1] at h ⊢
 by_cases e2 : id = 2170
 ·subst e2
  rw [if_pos rfl] at h ⊢
  exact rowAll_keep h hg hf (hT 275 (List.mem_singleton.mpr rfl))
 rw [if_neg e2] at h ⊢
 by_cases e3 : id = 218
 ·subst e3
  rw [if_pos rfl] at h ⊢
  exact rowTo_keep h hg hf (hT 18 (List.mem_singleton.mpr rfl))
 rw [if_neg e3] at h ⊢
 by_cases e4 : id = 2180
 ·subst e4
  rw [if_pos rfl] at h ⊢
  exact rowAll_keep h hg hf (hT 18 (List.mem_singleton.mpr rfl))
 rw [if_neg e4]
 trivial
def nearA (id : Nat) : Bool:=Nat.beq id 217 || (Nat.beq id 2170 || (Nat.beq id 218 || Nat.beq id 2180))
def farV (b : Nat) : Value -> Prop
 | .slice a n c=>n <= c /\ (0 < c -> ∀ ad : Addr,a = some ad -> ad.block ≠ b)
 | _=>True
theorem rowAt_sep {st f g : Nat} {P : Int -> Prop} {a : Option Addr} {i b : Nat} {sg : Sig} {w w' : World} (h : rowAt st f g P a i sg w) (hk : ∀ x,x ≠ b -> w'.heap[x]? = w.heap[x]?) (ha : ∀ ad : Addr,a = some ad -> ad.block ≠ b) : rowAt st f g P a i sg w':=by
 obtain ⟨x,o,cur,t,a',m,c,nm,mx,h1,h2,h3,h4,h5⟩:=h
 exact ⟨x,o,cur,t,a',m,c,nm,mx,h1,(hk x (ha _ h1)).trans h2,h3,h4,h5⟩
theorem rowTo_sep {st f g : Nat} {P : Int -> Int -> Prop} {vs : List Value} {b : Nat} {sg : Sig} {w w' : World} (h : rowTo st f g P vs sg w) (hk : ∀ x,x ≠ b -> w'.heap[x]? = w.heap[x]?) (hv : ∀ v ∈ vs,farV b v) : rowTo st f g P vs sg w':=by
 unfold rowTo at h
 split at h
 ·rename_i a n c _ k _ j
  obtain ⟨f1,f2⟩:=hv (.slice a n c) (by simp)
  exact ⟨h.1,fun i hi=>rowAt_sep (h.2 i hi) hk (f2 (by have:=h.1;omega))⟩
 ·exact h.elim
theorem rowAll_sep {st f g : Nat} {P : Int -> Int -> Prop} {vs : List Value} {b : Nat} {sg : Sig} {w w' : World} (h : rowAll st f g P vs sg w) (hk : ∀ x,x ≠ b -> w'.heap[x]? = w.heap[x]?) (hv : ∀ v ∈ vs,farV b v) : rowAll st f g P vs sg w':=by
 unfold rowAll at h
 split at h
 ·rename_i a n c _ k
  obtain ⟨f1,f2⟩:=hv (.slice a n c) (by simp)
  exact fun i hi=>rowAt_sep (h i hi) hk (f2 (by omega))
 ·exact h.elim
theorem atomW_sep {id : Nat} {vs : List Value} {sg : Sig} {w w' : World} {b : Nat} (h : atomW id vs sg w) (hn : nearA id = true) (hk : ∀ x,x ≠ b -> w'.heap[x]? = w.heap[x]?) (hv : ∀ v ∈ vs,farV b v) : atomW id vs sg w':=by
 unfold nearA at hn
 simp only [Bool.or_eq_true] at hn
 unfold atomW at h ⊢
 rcases hn with e | e | e | e <;> obtain rfl:=Nat.eq_of_beq_eq_true e
 ·exact rowTo_sep h hk hv
 ·exact rowAll_sep h hk hv
 ·exact rowTo_sep h hk hv
 ·exact rowAll_sep h hk hv
end
end Vx
