/- A part of the proof: lemmas. No condition of its own. -/
import Derived.Test.YtglcgbhhkjebbaaGreatK00
import Derived.Test.YtglcgbhhkjebbaaGreatK08
set_option linter.unusedVariables false
set_option linter.unusedSimpArgs false
namespace Vx
noncomputable section
open Go Zx
theorem mu_ext {sg sg' : Sig} (h : Grows sg sg') : Ext (mu sg) (mu sg'):=⟨fun _ _ h=>h,h⟩
def Atom.wok (sg : Sig) (ρ : Vl) (w : World) (f : Atom) : Prop:=∃ vs : List Value,All2 (SC.ok (mu sg)) (f.xs.map (DC.den ρ)) vs /\ atomW f.id vs sg w
def cutW (n : Nat) (w : World) : World:={ w with heap:=w.heap.extract 0 n }
def cutS (n : Nat) (sg : Sig) : Sig:=fun b o=>if b < n then sg b o else none
def Fct.ok (E : Ent) (sg : Sig) (ρ : Vl) (w : World) (f : Fct) : Prop:=match f.old with
 | true=>f.f.wok (cutS E.w.heap.size sg) ρ (cutW E.w.heap.size w)
 | false=>f.f.wok sg ρ w
theorem cutW_size {n : Nat} {w : World} (h : n <= w.heap.size) : (cutW n w).heap.size = n:=by simp only [cutW,Array.size_extract];omega
theorem cutW_get {n : Nat} {w : World} {b : Nat} (hb : b < n) : (cutW n w).heap[b]? = w.heap[b]?:=by
 simp only [cutW,Array.getElem?_extract]
 rcases Nat.lt_or_ge b w.heap.size with h | h
 ·rw [if_pos (by omega),Nat.zero_add]
 ·rw [if_neg (by omega),Array.getElem?_eq_none h]
theorem cutS_lt {n : Nat} {sg : Sig} {b o : Nat} (hb : b < n) : cutS n sg b o = sg b o:=if_pos hb
theorem cutS_grows (n : Nat) (sg : Sig) : Grows (cutS n sg) sg:=fun b o c h=>by
 unfold cutS at h
 split at h
 ·exact h
 ·cases h
theorem cutS_mono {n : Nat} {sg sg' : Sig} (h : Grows sg sg') : Grows (cutS n sg) (cutS n sg'):=fun b o c k=>by
 unfold cutS at k ⊢
 split at k
 ·rename_i hb;rw [if_pos hb];exact h _ _ _ k
 ·cases k
theorem Atom.wok_eq {n : Nat} {ρ σ : Vl} (h : Agr n ρ σ) {f : Atom} (hf : f.lt n) {sg : Sig} {w : World} (k : f.wok sg ρ w) : f.wok sg σ w:=by
 obtain ⟨vs,h1,h2⟩:=k
 refine ⟨vs, ?_,h2⟩
 rw [show f.xs.map (DC.den σ) = f.xs.map (DC.den ρ) from List.map_congr_left fun x hx=>(DC.den_eq h (hf x hx)).symm]
 exact h1
theorem Atom.wok_step {f : Atom} {ρ : Vl} {sg sg' : Sig} {w w' : World} {T : List Nat} (h : f.wok sg ρ w) (hg : Grows sg sg') (hf : Frm (Ent.none w sg T) sg' w') (hT : ∀ g ∈ atomT f.id,g ∉ T) : f.wok sg' ρ w':=by
 obtain ⟨vs,h1,h2⟩:=h
 exact ⟨vs,h1.imp fun _ _=>SC.ok_ext (mu_ext hg),atomW_keep h2 hg hf hT⟩
theorem Frm.uncut {n : Nat} {sg : Sig} {w : World} (hn : n <= w.heap.size) : Frm (Ent.none (cutW n w) (cutS n sg) []) sg w where
 size:=by show (cutW n w).heap.size <= _;rw [cutW_size hn];exact hn
 os:=rfl
 tape:=rfl
 output:=rfl
 sig:=fun b o hb=>by
  have hb : b < (cutW n w).heap.size:=hb
  rw [cutW_size hn] at hb
  exact (cutS_lt hb).symm
 keep:=fun b hb=>by
  have hb : b < (cutW n w).heap.size:=hb
  rw [cutW_size hn] at hb
  exact .inl (cutW_get hb).symm
theorem Frm.cut1 {n : Nat} {sg sg' : Sig} {w w' : World} {Wf : Wt} {ow : Nat -> Prop} (hn : n <= w.heap.size) (h : Frm ⟨w,sg,Wf,ow⟩ sg' w') (hno : ∀ b,b < n -> ¬(Ent.mk w sg Wf ow).ow b) : Frm (Ent.none (cutW n w) (cutS n sg) Wf.W) (cutS n sg') (cutW n w') where
 size:=by
  have : w.heap.size <= w'.heap.size:=h.size
  show (cutW n w).heap.size <= (cutW n w').heap.size
  rw [cutW_size hn,cutW_size (Nat.le_trans hn this)];exact Nat.le_refl _
 os:=h.os
 tape:=h.tape
 output:=h.output
 sig:=fun b o hb=>by
  have hb : b < (cutW n w).heap.size:=hb
  rw [cutW_size hn] at hb
  show cutS n sg' b o = cutS n sg b o
  rw [cutS_lt hb,cutS_lt hb]
  exact h.sig b o (Nat.lt_of_lt_of_le hb hn)
 keep:=fun b hb=>by
  have hb : b < (cutW n w).heap.size:=hb
  rw [cutW_size hn] at hb
  rcases h.keep b (Nat.lt_of_lt_of_le hb hn) with k | ⟨cur,cur',t,k1,k2,k3,k4⟩
  ·refine .inl ?_
   show (cutW n w').heap[b]? = (cutW n w).heap[b]?
   rw [cutW_get hb,cutW_get hb];exact k
  ·refine .inr ⟨cur,cur',t, ?_, ?_,k3,fun o ho=>k4 o fun c hc=>⟨(ho c ?_).1,fun hw=>(hno b hb hw).elim⟩⟩
   ·show (cutW n w).heap[b]? = _
    rw [cutW_get hb];exact k1
   ·rw [cutW_get hb];exact k2
   ·show cutS n sg b o = some c
    rw [cutS_lt hb];exact hc
theorem Frm.cut {n : Nat} {sg sg' : Sig} {w w' : World} {T : List Nat} (hn : n <= w.heap.size) (h : Frm (Ent.none w sg T) sg' w') : Frm (Ent.none (cutW n w) (cutS n sg) T) (cutS n sg') (cutW n w'):=Frm.cut1 hn h fun _ _=>Ent.none_ow
theorem Frm.cutKeep {n : Nat} {sg sg' : Sig} {w w' : World} {T : List Nat} (hn : n <= w.heap.size) (h : Frm (Ent.none w sg T) sg' w') (hk : ∀ b,b < n -> w'.heap[b]? = w.heap[b]?) : Frm (Ent.none (cutW n w) (cutS n sg) []) (cutS n sg') (cutW n w'):=by
 have f:=Frm.cut hn h
 refine ⟨f.size,f.os,f.tape,f.output,f.sig,fun b hb=>.inl ?_⟩
 have hb : b < (cutW n w).heap.size:=hb
 rw [cutW_size hn] at hb
 show _ = (cutW n w).heap[b]?
 rw [cutW_get hb,cutW_get hb]
 exact hk b hb
theorem Fct.now {E : Ent} {sg : Sig} {ρ : Vl} {w : World} {f : Fct} (hn : E.w.heap.size <= w.heap.size) (h : f.ok E sg ρ w) : f.f.wok sg ρ w:=by
 unfold Fct.ok at h
 split at h
 ·exact Atom.wok_step h (cutS_grows _ _) (Frm.uncut hn) fun g _=>by simp
 ·exact h
def mskN (l : List Nat) : Nat:=@List.rec Nat (fun _=>Nat) 0 (fun n _ ih=>Nat.lor (Nat.shiftLeft 1 n) ih) l
def memN (n : Nat) (l : List Nat) : Bool:=Nat.beq (Nat.land 1 (Nat.shiftRight (mskN l) n)) 1
theorem memN_bit (n m : Nat) : Nat.beq (Nat.land 1 (Nat.shiftRight m n)) 1 = m.testBit n:=by
 have e : Nat.land 1 (Nat.shiftRight m n) = (m >>> n) % 2:=by
  show 1 &&& (m >>> n) = _
  rw [Nat.and_comm,Nat.and_one_is_mod]
 rw [e,Nat.testBit_eq_decide_div_mod_eq,Nat.shiftRight_eq_div_pow]
 generalize m / 2 ^ n % 2 = x
 by_cases h : x = 1
 ·subst h;rfl
 ·have : Nat.beq x 1 = false:=by
   cases hb : Nat.beq x 1
   ·rfl
   ·exact absurd (Nat.eq_of_beq_eq_true hb) h
  rw [this];simp [h]
theorem mskN_bit {n : Nat} : ∀ {l : List Nat},(mskN l).testBit n = decide (n ∈ l)
 | []=>by show (0 : Nat).testBit n = _;simp
 | m :: ms=>by
  show (1 <<< m ||| mskN ms).testBit n = _
  rw [Nat.testBit_or,mskN_bit,Nat.testBit_shiftLeft]
  by_cases h : n = m
  ·subst h;simp
  ·rcases Nat.lt_or_ge n m with hl | hg
   ·have : ¬ m <= n:=by omega
    simp [this,h]
   ·have : n - m ≠ 0:=by omega
    have h1 : Nat.testBit 1 (n - m) = false:=by
     cases e : n - m with
     | zero=>exact absurd e this
     | succ k=>rw [Nat.testBit_succ];simp
    simp [h,h1]
theorem memN_ok {n : Nat} {l : List Nat} (h : memN n l = true) : n ∈ l:=by
 unfold memN at h
 rw [memN_bit,mskN_bit] at h
 exact of_decide_eq_true h
theorem memN_no {n : Nat} {l : List Nat} (h : memN n l = false) : n ∉ l:=by
 unfold memN at h
 rw [memN_bit,mskN_bit] at h
 exact of_decide_eq_false h
def apartN : List Nat -> List Nat -> Bool
 | [],_=>true
 | g :: gs,T=>!memN g T && apartN gs T
theorem apartN_ok {T : List Nat} : ∀ {l : List Nat},apartN l T = true -> ∀ g ∈ l,g ∉ T
 | g :: gs,h,x,hx=>by
  simp only [apartN,Bool.and_eq_true,Bool.not_eq_true'] at h
  rcases List.mem_cons.1 hx with rfl | hx
  ·exact memN_no h.1
  ·exact apartN_ok h.2 x hx
def keepG (T T' : List Nat) : List Fct -> List Fct
 | []=>[]
 | f :: fs=>match apartN (atomT f.f.id) (match f.old with
   | true=>T'
   | false=>T) with
  | true=>f :: keepG T T' fs
  | false=>keepG T T' fs
theorem keepG_ok {T T' : List Nat} : ∀ {l : List Fct} {f : Fct},f ∈ keepG T T' l -> f ∈ l /\ ∀ g ∈ atomT f.f.id,g ∉ (match f.old with
  | true=>T'
  | false=>T)
 | g :: gs,f,h=>by
  simp only [keepG] at h
  split at h
  ·rename_i hc
   rcases List.mem_cons.1 h with rfl | h
   ·exact ⟨by simp,apartN_ok hc⟩
   ·have:=keepG_ok h;exact ⟨by simp [this.1],this.2⟩
  ·have:=keepG_ok h;exact ⟨by simp [this.1],this.2⟩
theorem keepG_mem {T T' : List Nat} : ∀ {l : List Fct} {f : Fct},f ∈ l -> apartN (atomT f.f.id) (match f.old with
  | true=>T'
  | false=>T) = true -> f ∈ keepG T T' l
 | x :: l,f,h,hc=>by
  simp only [keepG]
  rcases List.mem_cons.1 h with rfl | h
  ·rw [hc];exact List.mem_cons_self ..
  ·have:=keepG_mem h hc
   split
   ·exact List.mem_cons_of_mem _ this
   ·exact this
theorem gok_step {E : Ent} {sg sg' : Sig} {ρ : Vl} {w w' : World} {T T' : List Nat} {G : List Fct} (h : ∀ f ∈ G,f.ok E sg ρ w) (hg : Grows sg sg') (hF : Frm (Ent.none w sg T) sg' w') (hO : Frm (Ent.none (cutW E.w.heap.size w) (cutS E.w.heap.size sg) T') (cutS E.w.heap.size sg') (cutW E.w.heap.size w')) :
  ∀ f ∈ keepG T T' G,f.ok E sg' ρ w':=fun f hf=>by
 obtain ⟨h1,h2⟩:=keepG_ok hf
 have h3:=h f h1
 unfold Fct.ok at h3 ⊢
 split at h3
 ·rename_i e
  rw [e] at h2
  exact Atom.wok_step h3 (cutS_mono hg) hO h2
 ·rename_i e
  rw [e] at h2
  exact Atom.wok_step h3 hg hF h2
theorem gok_new {E : Ent} {sg sg' : Sig} {ρ : Vl} {w w' : World} {G : List Fct} (hn : E.w.heap.size <= w.heap.size) (h : ∀ f ∈ G,f.ok E sg ρ w) (hg : Grows sg sg') (hF : Frm (Ent.none w sg []) sg' w') : ∀ f ∈ G,f.ok E sg' ρ w':=fun f hf=>by
 have h3:=h f hf
 unfold Fct.ok at h3 ⊢
 split at h3
 ·exact Atom.wok_step h3 (cutS_mono hg) (Frm.cut hn hF) fun g _=>by simp
 ·exact Atom.wok_step h3 hg hF fun g _=>by simp
structure MOk (E : Ent) (sg : Sig) (κ : Kn) (ρ : Vl) (d : Ds) (w : World) : Prop where
 kn : κ.Ok ρ
 zone : ZoneOk sg w
 fr : Frm E sg w
 mlt : ∀ m ∈ d.memo,m.lt κ.n
 memo : ∀ m ∈ d.memo,m.ok sg ρ w
 alt : ∀ p ∈ d.adr,p.1 < κ.n
 asz : ∀ p ∈ d.adr,(ρ.a p.1).1 < (w.heap.size : Int)
 young : ∀ p ∈ d.adr,1 <= p.2 -> 0 <= (ρ.a p.1).1 -> E.yg (ρ.a p.1).1
 fresh : ∀ p ∈ d.adr,2 <= p.2 -> 0 <= (ρ.a p.1).1 -> ∀ q ∈ d.adr,q.1 < p.1 -> (ρ.a q.1).1 ≠ (ρ.a p.1).1
 glt : ∀ f ∈ d.G,f.f.lt κ.n
 gok : ∀ f ∈ d.G,f.ok E sg ρ w
theorem Fct.ok_eq {n : Nat} {ρ σ : Vl} (h : Agr n ρ σ) {f : Fct} (hf : f.f.lt n) {E : Ent} {sg : Sig} {w : World} (k : f.ok E sg ρ w) : f.ok E sg σ w:=by
 unfold Fct.ok at k ⊢
 split at k
 ·exact Atom.wok_eq h hf k
 ·exact Atom.wok_eq h hf k
theorem Cell.ok_eq {n : Nat} {ρ σ : Vl} (h : Agr n ρ σ) {m : Cell} (hm : m.lt n) {sg : Sig} {w : World} (hk : m.ok sg ρ w) : m.ok sg σ w:=by
 unfold Cell.ok at hk ⊢
 rw [← h.a _ hm.a,← Lin.den_eq h.i hm.o,← DC.den_eq h hm.v]
 exact hk
theorem Cell.lt.mono {n k : Nat} (h : n <= k) {m : Cell} (hm : m.lt n) : m.lt k:=⟨Nat.lt_of_lt_of_le hm.a h,Tm.lt_mono h hm.o,DC.lt_mono h hm.v⟩
theorem MOk.gr {E : Ent} {sg : Sig} {κ κ' : Kn} {ρ ρ' : Vl} {d : Ds} {w : World} (h : MOk E sg κ ρ d w) (g : Gr κ κ' ρ ρ') : MOk E sg κ' ρ' d w where
 kn:=g.ok
 zone:=h.zone
 fr:=h.fr
 mlt:=fun m hm=>(h.mlt m hm).mono g.le
 memo:=fun m hm=>Cell.ok_eq g.agr (h.mlt m hm) (h.memo m hm)
 alt:=fun p hp=>Nat.lt_of_lt_of_le (h.alt p hp) g.le
 asz:=fun p hp=>by rw [← g.agr.a _ (h.alt p hp)];exact h.asz p hp
 young:=fun p hp=>by rw [← g.agr.a _ (h.alt p hp)];exact h.young p hp
 fresh:=fun p hp h2=>by
  rw [← g.agr.a _ (h.alt p hp)]
  intro h0 q hq hlt
  rw [← g.agr.a _ (h.alt q hq)]
  exact h.fresh p hp h2 h0 q hq hlt
 glt:=fun f hf=>Atom.lt_mono g.le (h.glt f hf)
 gok:=fun f hf=>Fct.ok_eq g.agr (h.glt f hf) (h.gok f hf)
theorem MOk.adr0 {E : Ent} {sg : Sig} {κ : Kn} {ρ : Vl} {d : Ds} {w : World} (h : MOk E sg κ ρ d w) {a : Nat} (ha : a < κ.n) (hs : (ρ.a a).1 < (w.heap.size : Int)) (hn : ∀ p ∈ d.adr,p.1 < a) : MOk E sg κ ρ { d with adr:=(a,0) :: d.adr } w:=
 { h with
  alt:=fun p hp=>by
   rcases List.mem_cons.1 hp with rfl | hp
   ·exact ha
   ·exact h.alt p hp
  asz:=fun p hp=>by
   rcases List.mem_cons.1 hp with rfl | hp
   ·exact hs
   ·exact h.asz p hp
  young:=fun p hp h1=>by
   rcases List.mem_cons.1 hp with rfl | hp
   ·simp at h1
   ·exact h.young p hp h1
  fresh:=fun p hp h2 h0 q hq hlt=>by
   rcases List.mem_cons.1 hp with rfl | hp
   ·simp at h2
   ·rcases List.mem_cons.1 hq with rfl | hq
    ·have:=hn p hp;simp at hlt;omega
    ·exact h.fresh p hp h2 h0 q hq hlt }
theorem MOk.cell {E : Ent} {sg : Sig} {κ : Kn} {ρ : Vl} {d : Ds} {w : World} (h : MOk E sg κ ρ d w) {m : Cell} (hl : m.lt κ.n) (hm : m.ok sg ρ w) : MOk E sg κ ρ { d with memo:=m :: d.memo } w:=
 { h with
  mlt:=fun x hx=>by
   rcases List.mem_cons.1 hx with rfl | hx
   ·exact hl
   ·exact h.mlt x hx
  memo:=fun x hx=>by
   rcases List.mem_cons.1 hx with rfl | hx
   ·exact hm
   ·exact h.memo x hx }
def Vl.setb (ρ : Vl) (n : Nat) (x : Int) (y : Int × Nat) : Vl:={ ρ with i:=fun v=>if v = n then x else ρ.i v,a:=fun v=>if v = n then y else ρ.a v }
theorem Vl.setb_agr (ρ : Vl) (n : Nat) (x : Int) (y : Int × Nat) : Agr n ρ (ρ.setb n x y):=⟨fun v hv=>by simp [Vl.setb,Nat.ne_of_lt hv],fun _ _=>rfl,fun v hv=>by simp [Vl.setb,Nat.ne_of_lt hv],rfl⟩
theorem newC_gr2 {κ : Kn} {ρ σ : Vl} (hκ : κ.Ok ρ) (ha : Agr κ.n ρ σ) {cs : List Lin} (h1 : ∀ l ∈ cs,l.lt (κ.n + 1)) (h2 : ∀ l ∈ cs,0 <= l.den σ.i) : Gr κ (κ.newC cs) ρ σ:=by
 have g0:=Kn.new_gr hκ ha
 refine ⟨Nat.le_succ _,g0.agr,⟨fun l hl=>?_,fun l hl=>?_,g0.ok.flt,g0.ok.fact⟩⟩
 ·rcases List.mem_append.1 hl with hl | hl
  ·exact h1 l hl
  ·exact g0.ok.lt l hl
 ·rcases List.mem_append.1 hl with hl | hl
  ·exact h2 l hl
  ·exact g0.ok.sat l hl
def L0 : Lin:=Lin.num 0
def csT (c : CS) (κ : Kn) (d : Ds) (kk : Kn -> Ds -> DC -> Bool) : Bool:=
 match c with
 | .int _ k lo hi=>kk (κ.newC (match decide (hi < lo) with
  | true=>[]
  | false=>[(Lin.var κ.n).addc (-lo),(Lin.num hi).sub (.var κ.n)])) d (.int k (.var κ.n))
 | .bool _=>kk (κ.newC [.var κ.n,(Lin.num 1).sub (.var κ.n)]) d (.boo true κ.n)
 | .str _=>kk κ.new d (.str κ.n)
 | .ptr _ nm nn=>!(zTab nm).isEmpty && (match nn with
  | true=>kk κ.new { d with adr:=(κ.n,0) :: d.adr } (.zp κ.n L0 (zTab nm))
  | false=>kk (κ.newC [.var κ.n,(Lin.num 1).sub (.var κ.n)]) { d with adr:=(κ.n,0) :: d.adr } (.np κ.n κ.n L0 (zTab nm)))
 | .sli _ nm mx=>!(zTab nm).isEmpty && kk ((κ.newC [.var κ.n,(Lin.num mx).sub (.var κ.n)]).newC [(Lin.var (κ.n + 1)).sub (.var κ.n),(Lin.num maxLen).sub (.var (κ.n + 1))]) { d with adr:=(κ.n,0) :: d.adr } (.zs κ.n L0 (zTab nm) (.var κ.n) (.var (κ.n + 1)))
def Told (E : Ent) (sg : Sig) (κ : Kn) (ρ : Vl) (w : World) (kk : Kn -> Ds -> DC -> Bool) (v : Value) : Prop:=
 ∃ κ' d' x ρ',kk κ' d' x = true /\ Gr κ κ' ρ ρ' /\ x.lt κ'.n /\ (x.den ρ').ok (mu sg) v /\ MOk E sg κ' ρ' d' w
theorem ne_isEmpty {α : Type} {l : List α} (h : (!l.isEmpty) = true) : ∃ a t,l = a :: t:=by
 cases l with
 | nil=>simp at h
 | cons a t=>exact ⟨a,t,rfl⟩
theorem csT_ok {E : Ent} {sg : Sig} {c : CS} {κ : Kn} {ρ : Vl} {d : Ds} {w : World} {kk : Kn -> Ds -> DC -> Bool} {v : Value} (hm : MOk E sg κ ρ d w) (hv : c.ok sg v) (h : csT c κ d kk = true) : Told E sg κ ρ w kk v:=by
 have hκ:=hm.kn
 cases c with
 | int g k lo hi=>
  obtain ⟨x,rfl,hb⟩:=hv
  have gr:=newC_gr (x:=x) (cs:=match decide (hi < lo) with
   | true=>[]
   | false=>[(Lin.var κ.n).addc (-lo),(Lin.num hi).sub (.var κ.n)]) hκ (fun l hl=>by
   split at hl
   ·cases hl
   ·simp only [List.mem_cons,List.not_mem_nil,or_false] at hl
    rcases hl with rfl | rfl
    ·exact Lin.addc_lt (var_lt1 _)
    ·exact Lin.sub_lt (Lin.num_lt _ _) (var_lt1 _)) (fun l hl=>by
   split at hl
   ·cases hl
   ·rename_i hd
    have hd : ¬hi < lo:=of_decide_eq_false hd
    have h1:=(hb.resolve_left hd).1
    have h2:=(hb.resolve_left hd).2
    simp only [List.mem_cons,List.not_mem_nil,or_false] at hl
    rcases hl with rfl | rfl
    ·rw [Lin.addc_den,new_den];omega
    ·rw [Lin.sub_den,new_den,Lin.num_den];omega)
  exact ⟨_,_,_,_,h,gr,var_lt1 _,by simp [DC.den,Vl.seti,SC.ok],hm.gr gr⟩
 | bool g=>
  obtain ⟨b,rfl⟩:=hv
  have gr:=newC_gr (x:=if b then 1 else 0) (cs:=[.var κ.n,(Lin.num 1).sub (.var κ.n)]) hκ (fun l hl=>by
   simp only [List.mem_cons,List.not_mem_nil,or_false] at hl
   rcases hl with rfl | rfl
   ·exact var_lt1 _
   ·exact Lin.sub_lt (Lin.num_lt _ _) (var_lt1 _)) (fun l hl=>by
   simp only [List.mem_cons,List.not_mem_nil,or_false] at hl
   rcases hl with rfl | rfl
   ·rw [new_den];split <;> omega
   ·rw [Lin.sub_den,new_den,Lin.num_den];split <;> omega)
  exact ⟨_,_,_,_,h,gr,Nat.lt_succ_self _,by cases b <;> simp [DC.den,Vl.seti,SC.ok],hm.gr gr⟩
 | str g=>
  obtain ⟨s,rfl⟩:=hv
  have gr:=Kn.new_gr hκ (Vl.sets_agr ρ κ.n s)
  exact ⟨_,_,_,_,h,gr,Nat.lt_succ_self _,by simp [DC.den,Vl.sets,SC.ok],hm.gr gr⟩
 | ptr g nm nn=>
  simp only [csT,Bool.and_eq_true] at h
  obtain ⟨h0,h2⟩:=h
  have mk : ∀ (x : Int) (bo : Int × Nat),0 <= x -> x <= 1 -> Gr κ (κ.newC [.var κ.n,(Lin.num 1).sub (.var κ.n)]) ρ (ρ.setb κ.n x bo):=fun x bo h0 h1=>newC_gr2 hκ (Vl.setb_agr ρ κ.n x bo) (fun l hl=>by
   simp only [List.mem_cons,List.not_mem_nil,or_false] at hl
   rcases hl with rfl | rfl
   ·exact var_lt1 _
   ·exact Lin.sub_lt (Lin.num_lt _ _) (var_lt1 _)) (fun l hl=>by
   simp only [List.mem_cons,List.not_mem_nil,or_false] at hl
   rcases hl with rfl | rfl
   ·simp [Vl.setb];exact h0
   ·simp [Vl.setb];omega)
  rcases hv with ⟨rfl,rfl⟩ | ⟨b,o,rfl,hs⟩
  ·have gr:=mk 0 (-1,0) (by omega) (by omega)
   refine ⟨_,_,_,_,h2,gr,⟨Nat.lt_succ_self _,Nat.lt_succ_self _,Lin.num_lt _ _⟩, ?_,(hm.gr gr).adr0 (Nat.lt_succ_self _) ?_ fun p hp=>hm.alt p hp⟩
   ·simp [DC.den,Vl.setb,SC.ok]
   ·simp [Vl.setb];omega
  ·obtain ⟨c0,t0,e0⟩:=ne_isEmpty h0
   have hb:=hm.zone.lt (hs 0 c0 (by rw [e0];rfl))
   cases nn with
   | true=>
    have gr:=Kn.new_gr hκ (Vl.seta_agr ρ κ.n ((b : Int),o))
    refine ⟨_,_,_,_,h2,gr,⟨Nat.lt_succ_self _,Lin.num_lt _ _⟩, ?_,(hm.gr gr).adr0 (Nat.lt_succ_self _) ?_ fun p hp=>hm.alt p hp⟩
    ·simp [DC.den,Vl.seta,SC.ok,L0,mu];exact hs
    ·simp [Vl.seta];omega
   | false=>
    have gr:=mk 1 ((b : Int),o) (by omega) (by omega)
    refine ⟨_,_,_,_,h2,gr,⟨Nat.lt_succ_self _,Nat.lt_succ_self _,Lin.num_lt _ _⟩, ?_,(hm.gr gr).adr0 (Nat.lt_succ_self _) ?_ fun p hp=>hm.alt p hp⟩
    ·simp [DC.den,Vl.setb,SC.ok,L0,mu];exact hs
    ·simp [Vl.setb];omega
 | sli g nm mx=>
  simp only [csT,Bool.and_eq_true] at h
  obtain ⟨h0,h2⟩:=h
  obtain ⟨a,n,c,rfl,h3,h4,h5,h6⟩:=hv
  obtain ⟨c0,t0,e0⟩:=ne_isEmpty h0
  obtain ⟨bo,hbo1,hbo2⟩ : ∃ bo : Int × Nat,bo.1 < (w.heap.size : Int) /\ (0 < c -> ∃ b : Nat,bo.1 = (b : Int) /\ a = some ⟨b,bo.2,none⟩ /\ ∀ i,i < c -> Sits sg b (bo.2 + i * (zTab nm).length) (zTab nm)):=by
   rcases Nat.eq_zero_or_pos c with hc | hc
   ·exact ⟨(-1,0),by omega,fun h=>absurd h (by omega)⟩
   ·obtain ⟨b,o,ha,hi⟩:=h6 hc
    have hb:=hm.zone.lt (hi 0 hc 0 c0 (by rw [e0];rfl))
    exact ⟨((b : Int),o),by simp;omega,fun _=>⟨b,rfl,ha,hi⟩⟩
  have g1:=newC_gr2 (cs:=[.var κ.n,(Lin.num mx).sub (.var κ.n)]) hκ (Vl.setb_agr ρ κ.n (n : Int) bo) (fun l hl=>by
   simp only [List.mem_cons,List.not_mem_nil,or_false] at hl
   rcases hl with rfl | rfl
   ·exact var_lt1 _
   ·exact Lin.sub_lt (Lin.num_lt _ _) (var_lt1 _)) (fun l hl=>by
   simp only [List.mem_cons,List.not_mem_nil,or_false] at hl
   rcases hl with rfl | rfl
   ·simp [Vl.setb]
   ·simp [Vl.setb];omega)
  have hv : (Lin.var κ.n).lt (κ.newC [.var κ.n,(Lin.num mx).sub (.var κ.n)]).n:=var_lt1 _
  have g2:=newC_gr (x:=(c : Int)) (cs:=[(Lin.var (κ.n + 1)).sub (.var κ.n),(Lin.num maxLen).sub (.var (κ.n + 1))]) g1.ok (fun l hl=>by
   simp only [List.mem_cons,List.not_mem_nil,or_false] at hl
   rcases hl with rfl | rfl
   ·exact Lin.sub_lt (var_lt1 _) (lt1 hv)
   ·exact Lin.sub_lt (Lin.num_lt _ _) (var_lt1 _)) (fun l hl=>by
   simp only [List.mem_cons,List.not_mem_nil,or_false] at hl
   rcases hl with rfl | rfl
   ·simp [Vl.seti,Vl.setb,Kn.newC];omega
   ·simp [Vl.seti,Vl.setb,Kn.newC];omega)
  refine ⟨_,_,_,_,h2,g1.trans g2,⟨Nat.lt_succ_of_lt (Nat.lt_succ_self _),Lin.num_lt _ _,lt1 hv,var_lt1 _⟩, ?_,(hm.gr (g1.trans g2)).adr0 (Nat.lt_succ_of_lt (Nat.lt_succ_self _)) ?_ fun p hp=>hm.alt p hp⟩
  ·have hb : 0 <= bo.1 \/ (c : Int) <= 0:=by
    rcases Nat.eq_zero_or_pos c with hc | hc
    ·exact .inr (by omega)
    ·obtain ⟨b,e,_⟩:=hbo2 hc
     exact .inl (by omega)
   simp only [DC.den,Vl.seti,Vl.setb,Kn.newC,Lin.var_den,L0,Lin.num_den]
   simp only [Nat.ne_of_lt (Nat.lt_succ_self κ.n),if_false,if_true]
   rw [if_pos hb]
   refine ⟨a,by simp,h3,h4,fun hc=>?_⟩
   obtain ⟨b,e1,e2,e3⟩:=hbo2 (by simpa using hc)
   rw [e1]
   simp only [Int.toNat_natCast,Int.toNat_zero,Nat.add_zero]
   exact ⟨e2,fun i hi=>e3 i (by simpa using hi)⟩
  ·simp [Vl.seti,Vl.setb,Kn.newC]
   exact hbo1
end
end Vx
namespace Vx
noncomputable section
def gN {β : Type} (n : Nat) (K : Nat -> β) : β:=@Nat.rec (fun _=>β) (K 0) (fun m _=>K (Nat.succ m)) n
def gI {β : Type} (n : Int) (K : Int -> β) : β:=@Int.rec (fun _=>β) (fun m=>gN m fun m=>K (.ofNat m)) (fun m=>gN m fun m=>K (.negSucc m)) n
def gTm {β : Type} (l : Tm) : (Tm -> β) -> β:=@List.rec (Nat × Int) (fun _=>(Tm -> β) -> β) (fun K=>K []) (fun p _ ih K=>gN p.1 fun v=>gI p.2 fun a=>ih fun t=>K ((v,a) :: t)) l
def gL {β : Type} (l : Lin) (K : Lin -> β) : β:=gI l.c fun c=>gTm l.t fun t=>K ⟨c,t⟩
section
variable {β : Type}
theorem gN_eq (n : Nat) (K : Nat -> β) : gN n K = K n:=by cases n <;> rfl
theorem gI_eq (n : Int) (K : Int -> β) : gI n K = K n:=by
 cases n with
 | ofNat m=>show gN m (fun m=>K (.ofNat m)) = _;rw [gN_eq]
 | negSucc m=>show gN m (fun m=>K (.negSucc m)) = _;rw [gN_eq]
theorem gTm_eq : ∀ (t : Tm) (K : Tm -> β),gTm t K = K t
 | [],_=>rfl
 | (v,a) :: t,K=>by
  show gN v (fun v=>gI a fun a=>gTm t fun t=>K ((v,a) :: t)) = _
  rw [gN_eq,gI_eq,gTm_eq t]
theorem gL_eq (l : Lin) (K : Lin -> β) : gL l K = K l:=by cases l;simp only [gL,gI_eq,gTm_eq]
end
end
end Vx
namespace Vx
noncomputable section
open Go Zx
def Tm.eqb (s : Tm) : Tm -> Bool:=@List.rec (Nat × Int) (fun _=>Tm -> Bool) (fun t=>@List.rec (Nat × Int) (fun _=>Bool) true (fun _ _ _=>false) t) (fun p _ ih t=>@List.rec (Nat × Int) (fun _=>Bool) false (fun q t _=>@Bool.rec (fun _=>Bool) false (@Bool.rec (fun _=>Bool) false (ih t) (iBeq p.2 q.2)) (Nat.beq p.1 q.1)) t) s
theorem Tm.eqb_eq : ∀ {s t : Tm},Tm.eqb s t = true -> s = t
 | [],[],_=>rfl
 | (v,a) :: s,(w,b) :: t,h=>by
  have h : @Bool.rec (fun _=>Bool) false (@Bool.rec (fun _=>Bool) false (Tm.eqb s t) (iBeq a b)) (Nat.beq v w) = true:=h
  cases h1 : Nat.beq v w with
  | false=>rw [h1] at h;cases h
  | true=>
   rw [h1] at h
   cases h2 : iBeq a b with
   | false=>rw [h2] at h;cases h
   | true=>
    rw [h2] at h
    rw [Nat.eq_of_beq_eq_true h1,iBeq_eq h2,Tm.eqb_eq h]
 | [],_ :: _,h=>by cases h
 | _ :: _,[],h=>by cases h
def Lin.eqb (l m : Lin) : Bool:=@Bool.rec (fun _=>Bool) false (Tm.eqb l.t m.t) (iBeq l.c m.c)
theorem Lin.eqb_eq {l m : Lin} (h : l.eqb m = true) : l = m:=by
 unfold Lin.eqb at h
 cases l with | mk c t=>cases m with | mk c' t'=>
 simp only [] at h
 cases h2 : iBeq c c' with
 | false=>rw [h2] at h;cases h
 | true=>
  rw [h2] at h
  rw [iBeq_eq h2,Tm.eqb_eq h]
def findT (l : List Cell) (a : Nat) (o : Lin) : Option (Cell × List Cell):=@List.rec Cell (fun _=>Option (Cell × List Cell)) none (fun m t ih=>@Bool.rec (fun _=>Option (Cell × List Cell)) ih (@Bool.rec (fun _=>Option (Cell × List Cell)) ih (some (m,t)) (m.o.eqb o)) (Nat.beq m.a a)) l
theorem findT_ok : ∀ {ms : List Cell} {a : Nat} {o : Lin} {m : Cell} {tl : List Cell},findT ms a o = some (m,tl) -> (m ∈ ms /\ m.a = a /\ m.o = o) /\ ∀ x ∈ tl,x ∈ ms
 | [],a,o,x,tl,h=>by cases h
 | m :: ms,a,o,x,tl,h=>by
  have h : @Bool.rec (fun _=>Option (Cell × List Cell)) (findT ms a o) (@Bool.rec (fun _=>Option (Cell × List Cell)) (findT ms a o) (some (m,ms)) (m.o.eqb o)) (Nat.beq m.a a) = some (x,tl):=h
  have more : findT ms a o = some (x,tl) -> (x ∈ m :: ms /\ x.a = a /\ x.o = o) /\ ∀ y ∈ tl,y ∈ m :: ms:=fun h=>by
   obtain ⟨⟨h1,h2,h3⟩,h4⟩:=findT_ok h
   exact ⟨⟨List.mem_cons_of_mem _ h1,h2,h3⟩,fun x hx=>List.mem_cons_of_mem _ (h4 x hx)⟩
  cases h1 : Nat.beq m.a a with
  | false=>rw [h1] at h;exact more h
  | true=>
   rw [h1] at h
   cases h2 : m.o.eqb o with
   | false=>rw [h2] at h;exact more h
   | true=>
    rw [h2] at h
    cases h
    exact ⟨⟨by simp,Nat.eq_of_beq_eq_true h1,Lin.eqb_eq h2⟩,fun x hx=>List.mem_cons_of_mem _ hx⟩
def hitT (l : List Cell) (a : Nat) (o : Lin) : Option (Cell × List Cell):=@List.rec Cell (fun _=>Option (Cell × List Cell)) none (fun m t _=>@Bool.rec (fun _=>Option (Cell × List Cell)) none (@Bool.rec (fun _=>Option (Cell × List Cell)) none (some (m,t)) (m.o.eqb o)) (Nat.beq m.a a)) l
theorem hitT_ok {ms : List Cell} {a : Nat} {o : Lin} {m : Cell} {tl : List Cell} (h : hitT ms a o = some (m,tl)) : (m ∈ ms /\ m.a = a /\ m.o = o) /\ ∀ x ∈ tl,x ∈ ms:=by
 cases ms with
 | nil=>cases h
 | cons x ms=>
  have h : @Bool.rec (fun _=>Option (Cell × List Cell)) none (@Bool.rec (fun _=>Option (Cell × List Cell)) none (some (x,ms)) (x.o.eqb o)) (Nat.beq x.a a) = some (m,tl):=h
  cases h1 : Nat.beq x.a a with
  | false=>rw [h1] at h;cases h
  | true=>
   rw [h1] at h
   cases h2 : x.o.eqb o with
   | false=>rw [h2] at h;cases h
   | true=>
    rw [h2] at h
    cases h
    exact ⟨⟨by simp,Nat.eq_of_beq_eq_true h1,Lin.eqb_eq h2⟩,fun x hx=>List.mem_cons_of_mem _ hx⟩
def nextT (tl ms : List Cell) (a : Nat) (o : Lin) : Option (Cell × List Cell):=@Option.rec (Cell × List Cell) (fun _=>Option (Cell × List Cell)) (findT ms a o) (fun p=>some p) (hitT tl a o)
theorem nextT_ok {tl ms : List Cell} {a : Nat} {o : Lin} {m : Cell} {t : List Cell} (htl : ∀ x ∈ tl,x ∈ ms) (h : nextT tl ms a o = some (m,t)) : (m ∈ ms /\ m.a = a /\ m.o = o) /\ ∀ x ∈ t,x ∈ ms:=by
 unfold nextT at h
 cases e : hitT tl a o with
 | none=>rw [e] at h;exact findT_ok h
 | some p=>
  rw [e] at h
  cases h
  obtain ⟨⟨h1,h2⟩,h3⟩:=hitT_ok e
  exact ⟨⟨htl _ h1,h2⟩,fun x hx=>htl _ (h3 x hx)⟩
def bndV (c : CS) (v : DC) (κ : Kn) (K : Kn -> Bool) : Bool:=match c,v with
 | .int _ _ lo hi,.int _ e=>match e.t with
  | [_]=>match decide (hi < lo) || anyR (fun l=>l.eqb (e.addc (-lo))) κ.C with
   | true=>K κ
   | false=>K ⟨κ.n,e.addc (-lo) :: (Lin.num hi).sub e :: κ.C,κ.F⟩
  | _=>K κ
 | _,_=>K κ
theorem bndV_ok {c : CS} {v : DC} {κ : Kn} {K : Kn -> Bool} {ρ : Vl} {sg sg' : Sig} {x : Value} (hκ : κ.Ok ρ) (hv : v.lt κ.n) (hx : (v.den ρ).ok (mu sg) x) (hc : c.ok sg' x) (h : bndV c v κ K = true) : ∃ κ',K κ' = true /\ Gr κ κ' ρ ρ:=by
 unfold bndV at h
 split at h
 ·rename_i g k lo hi k' e
  split at h
  ·split at h
   ·exact ⟨κ,h,Gr.refl hκ⟩
   ·rename_i hd
    simp only [Bool.or_eq_false_iff] at hd
    have hd:=of_decide_eq_false hd.1
    obtain ⟨y,hy,hb⟩:=hc
    have hb:=hb.resolve_left hd
    have he : e.den ρ.i = y:=by
     rw [hy] at hx
     simp only [DC.den,SC.ok] at hx
     first | exact hx.2.symm | exact hx.symm | (cases hx;rfl) | (injection hx with _ h2;exact h2.symm)
    refine ⟨_,h,Nat.le_refl _,Agr.refl _ _,⟨fun l hl=>?_,fun l hl=>?_,hκ.flt,hκ.fact⟩⟩
    ·rcases List.mem_cons.1 hl with rfl | hl
     ·exact Lin.addc_lt hv
     ·rcases List.mem_cons.1 hl with rfl | hl
      ·exact Lin.sub_lt (Lin.num_lt _ _) hv
      ·exact hκ.lt l hl
    ·rcases List.mem_cons.1 hl with rfl | hl
     ·rw [Lin.addc_den];omega
     ·rcases List.mem_cons.1 hl with rfl | hl
      ·rw [Lin.sub_den,Lin.num_den];omega
      ·exact hκ.sat l hl
  ·exact ⟨κ,h,Gr.refl hκ⟩
 ·exact ⟨κ,h,Gr.refl hκ⟩
def cellT (a : Nat) (o : Lin) (c : CS) (κ : Kn) (d : Ds) (tl : List Cell) (kk : Kn -> Ds -> List Cell -> DC -> Bool) : Bool:=
 match nextT tl d.memo a o with
 | some (m,t)=>bndV c m.v κ fun κ=>kk κ d t m.v
 | none=>csT c κ d fun κ' d' x=>kk κ' { d' with memo:=⟨a,o,c,x⟩ :: d'.memo } [] x
def cellsT (a : Nat) : Lin -> List CS -> Kn -> Ds -> List Cell -> (Kn -> Ds -> List DC -> Bool) -> Bool
 | _,[],κ,d,_,kk=>kk κ d []
 | o,c :: cs,κ,d,tl,kk=>gL o fun o=>cellT a o c κ d tl fun κ' d' tl x=>cellsT a (o.addc 1) cs κ' d' tl fun κ2 d2 xs=>kk κ2 d2 (x :: xs)
theorem cellT_ok {E : Ent} {sg : Sig} {a : Nat} {o : Lin} {c : CS} {κ : Kn} {ρ : Vl} {d : Ds} {w : World} {tl : List Cell} {kk : Kn -> Ds -> List Cell -> DC -> Bool} {b : Nat} {t : TF} {cur : Array Value} {v : Value} (hm : MOk E sg κ ρ d w) (htl : ∀ x ∈ tl,x ∈ d.memo) (ha : a < κ.n) (ho : o.lt κ.n) (h0 : 0 <= o.den ρ.i)
  (hb : (ρ.a a).1 = (b : Int)) (hh : w.heap[b]? = some (.cells cur t.1 t.2)) (hc : cur[(ρ.a a).2 + (o.den ρ.i).toNat]? = some v) (hs : sg b ((ρ.a a).2 + (o.den ρ.i).toNat) = some c) (h : cellT a o c κ d tl kk = true) : ∃ κ' d' tl' x ρ',kk κ' d' tl' x = true /\ Gr κ κ' ρ ρ' /\ x.lt κ'.n /\ (x.den ρ').ok (mu sg) v /\ MOk E sg κ' ρ' d' w /\ ∀ y ∈ tl',y ∈ d'.memo:=by
 unfold cellT at h
 have hv : c.ok sg v:=by
  obtain ⟨cur',t',v',g1,g2,g3⟩:=hm.zone b _ c hs
  obtain ⟨rfl,rfl⟩:=cells_inj hh g1
  rw [hc] at g2
  cases g2
  exact g3.1
 split at h
 ·rename_i m t1 hf
  obtain ⟨⟨hmm,rfl,rfl⟩,ht1⟩:=nextT_ok htl hf
  obtain ⟨_,b',t',cur',v',g1,g2,g3,g4,g5⟩:=hm.memo m hmm
  have e : b' = b:=by omega
  subst e
  obtain ⟨rfl,rfl⟩:=cells_inj hh g2
  rw [hc] at g3
  cases g3
  obtain ⟨κ',k1,gr⟩:=bndV_ok hm.kn (hm.mlt m hmm).v g5 hv h
  exact ⟨κ',d,t1,m.v,ρ,k1,gr,DC.lt_mono gr.le (hm.mlt m hmm).v,g5,hm.gr gr,ht1⟩
 ·obtain ⟨κ',d',x,ρ',h1,g,hx,hok,hm'⟩:=csT_ok hm hv h
  refine ⟨κ',_,[],x,ρ',h1,g,hx,hok,hm'.cell (m:=⟨a,o,c,x⟩) ⟨Nat.lt_of_lt_of_le ha g.le,Tm.lt_mono g.le ho,hx⟩ ⟨by simp only [];rw [← Lin.den_eq g.agr.i ho];exact h0,b,t,cur,v, ?_,hh, ?_, ?_,hok⟩,fun y hy=>by cases hy⟩
  ·rw [← g.agr.a _ ha];exact hb
  ·simp only [];rw [← g.agr.a _ ha,← Lin.den_eq g.agr.i ho];exact hc
  ·simp only [];rw [← g.agr.a _ ha,← Lin.den_eq g.agr.i ho];exact hs
theorem cellsT_ok {E : Ent} {sg : Sig} {a b : Nat} {w : World} {t : TF} {cur : Array Value} (hh : w.heap[b]? = some (.cells cur t.1 t.2)) : ∀ {L : List CS} {o : Lin} {κ : Kn} {ρ : Vl} {d : Ds} {tl : List Cell} {kk : Kn -> Ds -> List DC -> Bool},MOk E sg κ ρ d w -> (∀ x ∈ tl,x ∈ d.memo) -> a < κ.n -> o.lt κ.n →
  (ρ.a a).1 = (b : Int) -> 0 <= o.den ρ.i -> Sits sg b ((ρ.a a).2 + (o.den ρ.i).toNat) L -> cellsT a o L κ d tl kk = true →
  ∃ vs κ' d' xs ρ',kk κ' d' xs = true /\ Gr κ κ' ρ ρ' /\ (∀ x ∈ xs,x.lt κ'.n) /\ All2 (SC.ok (mu sg)) (xs.map (DC.den ρ')) vs /\ MOk E sg κ' ρ' d' w /\ vs.length = L.length /\ ∀ (j : Nat) (v : Value),vs[j]? = some v -> w.cell? ⟨b,(ρ.a a).2 + (o.den ρ.i).toNat + j,none⟩ = some v
 | [],o,κ,ρ,d,tl,kk,hm,htl,ha,ho,hb,h0,hs,h=>⟨[],κ,d,[],ρ,h,Gr.refl hm.kn,(fun x hx=>by cases hx),trivial,hm,rfl,fun j v hj=>by simp at hj⟩
 | c :: L,o,κ,ρ,d,tl,kk,hm,htl,ha,ho,hb,h0,hs,h=>by
  simp only [cellsT,gL_eq] at h
  have hs0 : sg b ((ρ.a a).2 + (o.den ρ.i).toNat) = some c:=by simpa using hs 0 c rfl
  obtain ⟨cur',t',v,g1,g2,g3⟩:=hm.zone b _ c hs0
  obtain ⟨rfl,rfl⟩:=cells_inj hh g1
  obtain ⟨κ1,d1,tl1,x,ρ1,h1,gr1,hx,hok,hm1,htl1⟩:=cellT_ok hm htl ha ho h0 hb hh g2 hs0 h
  have e1 : ρ1.a a = ρ.a a:=(gr1.agr.a _ ha).symm
  have e2 : o.den ρ1.i = o.den ρ.i:=(Lin.den_eq gr1.agr.i ho).symm
  have e3 : ((o.addc 1).den ρ1.i).toNat = (o.den ρ.i).toNat + 1:=by rw [Lin.addc_den,e2];omega
  obtain ⟨vs,κ2,d2,xs,ρ2,h2,gr2,hxs,hall,hm2,hlen,hcell⟩:=cellsT_ok hh (L:=L) (o:=o.addc 1) hm1 htl1 (Nat.lt_of_lt_of_le ha gr1.le) (Lin.addc_lt (Tm.lt_mono gr1.le ho)) (by rw [e1];exact hb) (by rw [Lin.addc_den,e2];omega) (fun j c' hj=>by
   rw [e1,e3]
   have:=hs (j + 1) c' (by simpa using hj)
   rw [show (ρ.a a).2 + ((o.den ρ.i).toNat + 1) + j = (ρ.a a).2 + (o.den ρ.i).toNat + (j + 1) by omega];exact this) h1
  refine ⟨v :: vs,κ2,d2,x :: xs,ρ2,h2,gr1.trans gr2,fun y hy=>?_,⟨?_,hall⟩,hm2,by simp [hlen],fun j u hj=>?_⟩
  ·rcases List.mem_cons.1 hy with rfl | hy
   ·exact DC.lt_mono gr2.le hx
   ·exact hxs y hy
  ·rw [← DC.den_eq gr2.agr hx];exact hok
  ·cases j with
   | zero=>simp at hj;subst hj;simp [World.cell?,hh,g2]
   | succ j=>
    have:=hcell j u (by simpa using hj)
    rw [e1,e3] at this
    rw [show (ρ.a a).2 + (o.den ρ.i).toNat + (j + 1) = (ρ.a a).2 + ((o.den ρ.i).toNat + 1) + j by omega];exact this
def packT (ag : Bool) (cs : List DC) : Option DV:=
 if ag then some (.s (.a cs)) else
 match cs with
 | [c]=>some (.s (.c c))
 | _=>none
def zpD : DV -> Option (Nat × Lin × List CS)
 | .s (.c (.zp a o L))=>some (a,o,L)
 | _=>none
def loadT (P : Program) (t : TypeId) (x : DV) (κ : Kn) (d : Ds) (kk : Kn -> Ds -> DV -> Bool) : Bool:=
 match zpD x,P.info? t,P.underlying t with
 | some (a,o,L),some inf,some td=>decide (inf.size <= L.length) && (Nat.blt 0 inf.size && (κ.has o && cellsT a o (L.take inf.size) κ d [] fun κ' d' cs=>match packT (agD td) cs with
   | some v=>kk κ' d' v
   | none=>false))
 | _,_,_=>false
theorem zp_ok {sg : Sig} {ρ : Vl} {a : Nat} {o : Lin} {L : List CS} {u : Value} (h : ((DC.zp a o L).den ρ).ok (mu sg) u) : ∃ b : Nat,(ρ.a a).1 = (b : Int) /\ u = .pointer (some ⟨b,(ρ.a a).2 + (o.den ρ.i).toNat,none⟩) /\ Sits sg b ((ρ.a a).2 + (o.den ρ.i).toNat) L:=by
 simp only [DC.den] at h
 split at h
 ·rename_i h0
  obtain ⟨b,hb⟩:=Int.eq_ofNat_of_zero_le h0
  obtain ⟨h1,h2⟩:=h
  rw [hb] at h1 h2
  exact ⟨b,hb,h1,h2⟩
 ·obtain ⟨l,hl,_⟩:=h
  simp [mu] at hl
theorem np_ok {sg : Sig} {ρ : Vl} {a v : Nat} {o : Lin} {L : List CS} {u : Value} (h : ((DC.np a v o L).den ρ).ok (mu sg) u) : (ρ.i v = 1 /\ ((DC.zp a o L).den ρ).ok (mu sg) u) \/ (ρ.i v ≠ 1 /\ u = .pointer none):=by
 by_cases hv : ρ.i v = 1
 ·left
  refine ⟨hv, ?_⟩
  simp only [DC.den,hv,if_true] at h ⊢
  exact h
 ·right
  refine ⟨hv, ?_⟩
  simp only [DC.den,hv,if_false] at h
  exact h
def GotM (E : Ent) (sg : Sig) (κ : Kn) (ρ : Vl) (kk : Kn -> Ds -> DV -> Bool) (z : Value) (w : World) : Prop:=
 ∃ sg' κ' d' y ρ',kk κ' d' y = true /\ Gr κ κ' ρ ρ' /\ y.lt κ'.n /\ (y.den ρ').ok (mu sg') z /\ Grows sg sg' /\ MOk E sg' κ' ρ' d' w
theorem Grows.refl (sg : Sig) : Grows sg sg:=fun _ _ _ h=>h
theorem loadT_ok {E : Ent} {sg : Sig} {P : Program} {t : TypeId} {x : DV} {κ : Kn} {ρ : Vl} {d : Ds} {w : World} {kk : Kn -> Ds -> DV -> Bool} {u : Value} (hm : MOk E sg κ ρ d w) (hl : x.lt κ.n) (hx : (x.den ρ).ok (mu sg) u) (h : loadT P t x κ d kk = true) :
  ∃ z,(∀ w',Keep w w' -> (Instr.loadAt t u).run P w' = .ok z w') /\ GotM E sg κ ρ kk z w:=by
 unfold loadT at h
 split at h
 ·rename_i a o L inf td hz hi hu
  have hxe : x = .s (.c (.zp a o L)):=by
   unfold zpD at hz
   split at hz
   ·cases hz;rfl
   ·cases hz
  subst hxe
  simp only [Bool.and_eq_true,decide_eq_true_eq] at h
  obtain ⟨hle,hpos,h0,h⟩:=h
  have h0:=Kn.has_ok hm.kn h0
  have hpos : 0 < inf.size:=by simpa [Nat.blt_eq] using hpos
  obtain ⟨b,hb,rfl,hs⟩:=zp_ok hx
  obtain ⟨cur,tt,hh,_⟩:=sits_room hm.zone hs (n:=1) (by omega) (by omega)
  obtain ⟨vs,κ',d',cs,ρ',h1,gr,hlt,hall,hm',hlen,hcell⟩:=cellsT_ok hh hm (fun x hx=>by cases hx) hl.1 hl.2 hb h0 (hs.take inf.size) h
  have hvl : vs.length = inf.size:=by rw [hlen];simp;omega
  have hbw:=heap_lt hh
  have hc : ∀ (w' : World),Keep w w' -> ∀ (j : Nat) (v : Value),vs[j]? = some v -> w'.cell? ((⟨b,(ρ.a a).2 + (o.den ρ.i).toNat,none⟩ : Addr).add j) = some v:=fun w' hk j v hv=>by
   rw [Addr.add_lit',← hcell j v hv]
   simp only [World.cell?]
   rw [hk.get b hbw]
  split at h1
  ·rename_i y hy
   unfold packT at hy
   split at hy
   ·rename_i hag
    cases hy
    refine ⟨.agg vs.toArray,fun w' hk=>?_,sg,κ',d',_,ρ',h1,gr,hlt,⟨vs,rfl,hall⟩,Grows.refl _,hm'⟩
    have hrun:=run_loadCells_list (P:=P) w' ⟨b,(ρ.a a).2 + (o.den ρ.i).toNat,none⟩ vs (hc w' hk)
    rw [hvl] at hrun
    simp [Instr.loadAt,Instr.sureAddr,loadVar,run_isAgg hu,hag,run_sizeOf' hi,hrun]
   ·rename_i hag
    split at hy
    ·rename_i c
     cases hy
     match vs,hall,hc with
     | [v],hall,hc=>
      refine ⟨v,fun w' hk=>?_,sg,κ',d',_,ρ',h1,gr,hlt c (by simp),hall.1,Grows.refl _,hm'⟩
      have:=hc w' hk 0 v rfl
      rw [Addr.add_lit',Nat.add_zero] at this
      simp [Instr.loadAt,Instr.sureAddr,loadVar,run_isAgg hu,hag,this]
     | [],hall,_=>exact hall.elim
     | _ :: _ :: _,hall,_=>exact hall.2.elim
    ·cases hy
  ·cases h1
 ·cases h
end
end Vx
