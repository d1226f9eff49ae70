/- A part of the proof: lemmas. No condition of its own. -/
import Derived.Test.YtglcgbhhkjebbaaGreatK07
import Derived.Test.YtglcgbhhkjebbaaGreatK19
import Derived.Test.YtglcgbhhkjebbaaGreatK20
set_option linter.unusedVariables false
set_option linter.unusedSimpArgs false
namespace Zx.Zr
open Go Go.Proofs Go.RowKit
def allBo : List SC -> Bool
 | []=>true
 | .boo _ :: cs=>allBo cs
 | .tru _ :: cs=>allBo cs
 | _=>false
def idxOut : List SC -> Bool -> Int -> Out SV
 | [],_,_=>.ret (one (.num .i64 (-1)))
 | .boo b :: cs,v,k=>if v then .brB b (.ret (one (.num .i64 k))) (idxOut cs v (k + 1)) else .brB b (idxOut cs v (k + 1)) (.ret (one (.num .i64 k)))
 | .tru b :: cs,v,k=>if v == b then .ret (one (.num .i64 k)) else idxOut cs v (k + 1)
 | _,_,_=>.fail
def idxSpec : Spec:=fun base args=>match args with
 | [.s (.c (.sli b i 0 j 8 c q)),.s (.c (.tru v))]=>⟨[b],[],fun bl=>
   match bl with
   | [some k]=>match blkGet k i 0 j 8 with
    | some (none,cs)=>if allBo cs then oAst none (Out.bind (idxOut cs v 0) fun x=>.ret ⟨x,[],[]⟩) else .fail
    | _=>.fail
   | _=>.fail⟩
 | _=>Req.fail
def sliN (x : SV) : Nat:=
 match x with
 | .s (.c (.sli b _ _ _ _ _ _))=>b
 | _=>0
def viewBs (b : Option Blk) : Nat -> Nat -> List Bool
 | _,0=>[]
 | i,n + 1=>(match b with
  | some (.view _ _ f)=>cellB (f i) 0
  | _=>false) :: viewBs b (i + 1) n
def idxAnn : Ann where
 A:=Unit
 names:=fun s=>[sliN (s.slots.getD 0 .u)]
 st:=fun k _ s=>{ s with slots:=((keepS [0,1,7] 0 s.slots).set 8 (one (.num .i64 (Int.ofNat k)))) }
 inv:=fun s k _=>idxGo (boolN (s.slots.getD 1 .u)) 0 (viewBs (s.heap (sliN (s.slots.getD 0 .u))) 0 8) = idxGo (boolN (s.slots.getD 1 .u)) (Int.ofNat k) (viewBs (s.heap (sliN (s.slots.getD 0 .u))) k (8 - k))
 wit:=fun _=>()
 lit:=some 8
def hIdx (B : Nat -> Bool) : Nat -> Option Blk:=fun n=>if n = 0 then some (.view 1 8 fun i=>[.boo (B i)]) else none
def idxVC (c : Nat) (B : Nat -> Bool) (v : Bool) : Prop:=
 entryK Tryz.f195 [one (.sli 0 0 1 0 8 c false),one (.boo v)] (hIdx B) 1 fun s=>cwp Tryz.prog (envL []) (ctl1 2 idxAnn) (Tryz.f195.body.getD .skip) s (retK Tryz.prog Tryz.f195 fun sv _=>leV [] [] sv (one (.int .i64 (idxGo v 0 [B 0,B 1,B 2,B 3,B 4,B 5,B 6,B 7]))))
theorem idx_hit {v b : Bool} {k G : Int} {bs : List Bool} (hG : G = idxGo v k (b :: bs)) (h : v = b) : k = G:=by subst hG;simp [idxGo,h]
theorem idx_no {v b : Bool} {k G : Int} {bs : List Bool} (hG : G = idxGo v k (b :: bs)) (h : ¬v = b) : G = idxGo v (k + 1) bs:=by subst hG;simp [idxGo,h]
theorem idx_end {v : Bool} {k G : Int} (hG : G = idxGo v k []) : -1 = G:=by subst hG;simp [idxGo]
set_option maxRecDepth 100000 in
set_option maxHeartbeats 8000000 in
theorem idx_vc (c : Nat) (B : Nat -> Bool) (v : Bool) : idxVC c B v:=of_eq (b:=let v0:=((8 : Nat) = 8 /\ ∀ (i : Nat),i < 8 -> B i = B i) /\ True;let v1:=(-1 : Int) = idxGo v 0 [B 0,B 1,B 2,B 3,B 4,B 5,B 6,B 7];let v2:=((0 : Nat) = 0 /\ (0 : Nat) = 0) /\ (8 : Nat) = 8 /\ c = c;((((v2) /\ v = v /\ (8 : Int) = 8 /\ (0 : Int) = 0 /\ True) /\ v0) /\ Lf (idxGo v 0 [B 0,B 1,B 2,B 3,B 4,B 5,B 6,B 7] = idxGo v 0 [B 0,B 1,B 2,B 3,B 4,B 5,B 6,B 7])) /\ (∀ (x : Unit),idxGo v 0 [B 0,B 1,B 2,B 3,B 4,B 5,B 6,B 7] = idxGo v 0 [B 0,B 1,B 2,B 3,B 4,B 5,B 6,B 7] -> ((0 : Int) < 8 -> Lf ((0 : Int) <= 0 /\ (0 : Int) < 8) /\ Lf ((0 : Nat) < 8) /\ (v = B 0 -> 0 = idxGo v 0 [B 0,B 1,B 2,B 3,B 4,B 5,B 6,B 7]) /\ (¬v = B 0 -> (((v2) /\ v = v /\ (8 : Int) = 8 /\ (1 : Int) = 1 /\ True) /\ v0) /\ Lf (idxGo v 0 [B 0,B 1,B 2,B 3,B 4,B 5,B 6,B 7] = idxGo v 1 [B 1,B 2,B 3,B 4,B 5,B 6,B 7]))) /\ (¬(0 : Int) < 8 -> v1)) /\ (∀ (x : Unit),idxGo v 0 [B 0,B 1,B 2,B 3,B 4,B 5,B 6,B 7] = idxGo v 1 [B 1,B 2,B 3,B 4,B 5,B 6,B 7] -> ((1 : Int) < 8 -> Lf ((0 : Int) <= 1 /\ (1 : Int) < 8) /\ Lf ((1 : Nat) < 8) /\ (v = B 1 -> 1 = idxGo v 0 [B 0,B 1,B 2,B 3,B 4,B 5,B 6,B 7]) /\ (¬v = B 1 -> (((v2) /\ v = v /\ (8 : Int) = 8 /\ (2 : Int) = 2 /\ True) /\ v0) /\ Lf (idxGo v 0 [B 0,B 1,B 2,B 3,B 4,B 5,B 6,B 7] = idxGo v 2 [B 2,B 3,B 4,B 5,B 6,B 7]))) /\ (¬(1 : Int) < 8 -> v1)) /\ (∀ (x : Unit),idxGo v 0 [B 0,B 1,B 2,B 3,B 4,B 5,B 6,B 7] = idxGo v 2 [B 2,B 3,B 4,B 5,B 6,B 7] -> ((2 : Int) < 8 -> Lf ((0 : Int) <= 2 /\ (2 : Int) < 8) /\ Lf ((2 : Nat) < 8) /\ (v = B 2 -> 2 = idxGo v 0 [B 0,B 1,B 2,B 3,B 4,B 5,B 6,B 7]) /\ (¬v = B 2 -> (((v2) /\ v = v /\ (8 : Int) = 8 /\ (3 : Int) = 3 /\ True) /\ v0) /\ Lf (idxGo v 0 [B 0,B 1,B 2,B 3,B 4,B 5,B 6,B 7] = idxGo v 3 [B 3,B 4,B 5,B 6,B 7]))) /\ (¬(2 : Int) < 8 -> v1)) /\ (∀ (x : Unit),idxGo v 0 [B 0,B 1,B 2,B 3,B 4,B 5,B 6,B 7] = idxGo v 3 [B 3,B 4,B 5,B 6,B 7] -> ((3 : Int) < 8 -> Lf ((0 : Int) <= 3 /\ (3 : Int) < 8) /\ Lf ((3 : Nat) < 8) /\ (v = B 3 -> 3 = idxGo v 0 [B 0,B 1,B 2,B 3,B 4,B 5,B 6,B 7]) /\ (¬v = B 3 -> (((v2) /\ v = v /\ (8 : Int) = 8 /\ (4 : Int) = 4 /\ True) /\ v0) /\ Lf (idxGo v 0 [B 0,B 1,B 2,B 3,B 4,B 5,B 6,B 7] = idxGo v 4 [B 4,B 5,B 6,B 7]))) /\ (¬(3 : Int) < 8 -> v1)) /\ (∀ (x : Unit),idxGo v 0 [B 0,B 1,B 2,B 3,B 4,B 5,B 6,B 7] = idxGo v 4 [B 4,B 5,B 6,B 7] -> ((4 : Int) < 8 -> Lf ((0 : Int) <= 4 /\ (4 : Int) < 8) /\ Lf ((4 : Nat) < 8) /\ (v = B 4 -> 4 = idxGo v 0 [B 0,B 1,B 2,B 3,B 4,B 5,B 6,B 7]) /\ (¬v = B 4 -> (((v2) /\ v = v /\ (8 : Int) = 8 /\ (5 : Int) = 5 /\ True) /\ v0) /\ Lf (idxGo v 0 [B 0,B 1,B 2,B 3,B 4,B 5,B 6,B 7] = idxGo v 5 [B 5,B 6,B 7]))) /\ (¬(4 : Int) < 8 -> v1)) /\ (∀ (x : Unit),idxGo v 0 [B 0,B 1,B 2,B 3,B 4,B 5,B 6,B 7] = idxGo v 5 [B 5,B 6,B 7] -> ((5 : Int) < 8 -> Lf ((0 : Int) <= 5 /\ (5 : Int) < 8) /\ Lf ((5 : Nat) < 8) /\ (v = B 5 -> 5 = idxGo v 0 [B 0,B 1,B 2,B 3,B 4,B 5,B 6,B 7]) /\ (¬v = B 5 -> (((v2) /\ v = v /\ (8 : Int) = 8 /\ (6 : Int) = 6 /\ True) /\ v0) /\ Lf (idxGo v 0 [B 0,B 1,B 2,B 3,B 4,B 5,B 6,B 7] = idxGo v 6 [B 6,B 7]))) /\ (¬(5 : Int) < 8 -> v1)) /\ (∀ (x : Unit),idxGo v 0 [B 0,B 1,B 2,B 3,B 4,B 5,B 6,B 7] = idxGo v 6 [B 6,B 7] -> ((6 : Int) < 8 -> Lf ((0 : Int) <= 6 /\ (6 : Int) < 8) /\ Lf ((6 : Nat) < 8) /\ (v = B 6 -> 6 = idxGo v 0 [B 0,B 1,B 2,B 3,B 4,B 5,B 6,B 7]) /\ (¬v = B 6 -> (((v2) /\ v = v /\ (8 : Int) = 8 /\ (7 : Int) = 7 /\ True) /\ v0) /\ Lf (idxGo v 0 [B 0,B 1,B 2,B 3,B 4,B 5,B 6,B 7] = idxGo v 7 [B 7]))) /\ (¬(6 : Int) < 8 -> v1)) /\ (∀ (x : Unit),idxGo v 0 [B 0,B 1,B 2,B 3,B 4,B 5,B 6,B 7] = idxGo v 7 [B 7] -> ((7 : Int) < 8 -> Lf ((0 : Int) <= 7 /\ (7 : Int) < 8) /\ Lf ((7 : Nat) < 8) /\ (v = B 7 -> 7 = idxGo v 0 [B 0,B 1,B 2,B 3,B 4,B 5,B 6,B 7]) /\ (¬v = B 7 -> (((v2) /\ v = v /\ (8 : Int) = 8 /\ (8 : Int) = 8 /\ True) /\ v0) /\ Lf (idxGo v 0 [B 0,B 1,B 2,B 3,B 4,B 5,B 6,B 7] = idxGo v 8 []))) /\ (¬(7 : Int) < 8 -> v1)) /\ ∀ (x : Unit),idxGo v 0 [B 0,B 1,B 2,B 3,B 4,B 5,B 6,B 7] = idxGo v 8 [] -> ((8 : Int) < 8 -> Lf ((0 : Int) <= 8 /\ (8 : Int) < 8) /\ Lf ((8 : Nat) < 8) /\ (v = B 8 -> 8 = idxGo v 0 [B 0,B 1,B 2,B 3,B 4,B 5,B 6,B 7]) /\ (¬v = B 8 -> False)) /\ (¬(8 : Int) < 8 -> v1)) (by kernel_rfl) (by
 dsimp only
 repeat' (first | apply And.intro | apply Lf.mk | intro _)
 all_goals first
  | rfl
  | trivial
  | omega
  | exact idx_no (by assumption) (by assumption)
  | exact idx_hit (by assumption) (by assumption)
  | exact idx_end (by assumption))
theorem fit_tab {ks : List LK} {L : List Leaf} (h0 : fits (tabK ++ ks) L = true) : ∃ b0 b1 b2 b3 b4 b5 b6 b7 a0 a1 a2 a3 a4 a5 a6 a7 L',L = .B b0 :: .B b1 :: .B b2 :: .B b3 :: .B b4 :: .B b5 :: .B b6 :: .B b7 :: .I a0 :: .I a1 :: .I a2 :: .I a3 :: .I a4 :: .I a5 :: .I a6 :: .I a7 :: L' /\ fits ks L' = true:=by
 obtain ⟨b0,L0,rfl,h1⟩:=fit_b h0
 obtain ⟨b1,L1,rfl,h2⟩:=fit_b h1
 obtain ⟨b2,L2,rfl,h3⟩:=fit_b h2
 obtain ⟨b3,L3,rfl,h4⟩:=fit_b h3
 obtain ⟨b4,L4,rfl,h5⟩:=fit_b h4
 obtain ⟨b5,L5,rfl,h6⟩:=fit_b h5
 obtain ⟨b6,L6,rfl,h7⟩:=fit_b h6
 obtain ⟨b7,L7,rfl,h8⟩:=fit_b h7
 obtain ⟨a0,M0,rfl,h9⟩:=fit_i h8
 obtain ⟨a1,M1,rfl,h10⟩:=fit_i h9
 obtain ⟨a2,M2,rfl,h11⟩:=fit_i h10
 obtain ⟨a3,M3,rfl,h12⟩:=fit_i h11
 obtain ⟨a4,M4,rfl,h13⟩:=fit_i h12
 obtain ⟨a5,M5,rfl,h14⟩:=fit_i h13
 obtain ⟨a6,M6,rfl,h15⟩:=fit_i h14
 obtain ⟨a7,M7,rfl,h16⟩:=fit_i h15
 exact ⟨b0,b1,b2,b3,b4,b5,b6,b7,a0,a1,a2,a3,a4,a5,a6,a7,M7,rfl,h16⟩
theorem addrS_ok : SpecOk Tryz.prog 59 addrC.spec:=addrC.ok (envL_nil _) mixed (C:=noCtl) Tryz.func59 rfl fun L h _=>by
 obtain ⟨i,_,rfl,h1⟩:=fit_i h
 obtain rfl:=fit_nil h1
 exact addrS_vc i
theorem slot8_ok : SpecOk Tryz.prog 197 slot8C.spec:=slot8C.ok (envL_nil _) mixed (C:=noCtl) Tryz.func197 rfl fun L h _=>by
 obtain ⟨i,_,rfl,h1⟩:=fit_i h
 obtain rfl:=fit_nil h1
 exact slot8_vc i
set_option maxRecDepth 100000 in
theorem findS_ok : SpecOk Tryz.prog 58 findC.spec:=findC.ok (envL_nil _) mixed (C:=ctl1 2 findAnn) Tryz.func58 rfl fun L h _=>by
 obtain ⟨b0,b1,b2,b3,b4,b5,b6,b7,a0,a1,a2,a3,a4,a5,a6,a7,_,rfl,h1⟩:=fit_tab h
 obtain ⟨x,_,rfl,h2⟩:=fit_i h1
 obtain rfl:=fit_nil h2
 exact findS_vc ..
theorem envA_ok : EnvOk Tryz.prog (envL envA):=
 envL_cons ⟨_,Tryz.func59,rfl,by kernel_rfl⟩ addrS_ok (envL_cons ⟨_,Tryz.func58,rfl,by kernel_rfl⟩ findS_ok (envL_nil _))
set_option maxRecDepth 100000 in
theorem goodT_ok : SpecOk Tryz.prog 32 goodTC.spec:=goodTC.ok envA_ok mixed (C:=ctl1 2 goodAnn) Tryz.func32 rfl fun L h _=>by
 obtain ⟨b0,b1,b2,b3,b4,b5,b6,b7,a0,a1,a2,a3,a4,a5,a6,a7,_,rfl,h1⟩:=fit_tab h
 obtain rfl:=fit_nil h1
 exact goodS_vc ..
theorem allBo_ok {μ : Mu} : ∀ {cs : List SC} {vs : List Value},allBo cs = true -> All2 (SC.ok μ) cs vs -> ∃ bs : List Bool,vs = bs.map Value.bool
 | [],[],_,_=>⟨[],rfl⟩
 | .boo b :: cs,v :: vs,h,ha=>by
  obtain ⟨bs,rfl⟩:=allBo_ok (cs:=cs) h ha.2
  have hv : v = .bool b:=ha.1
  exact ⟨b :: bs,by rw [hv];rfl⟩
 | .tru b :: cs,v :: vs,h,ha=>by
  obtain ⟨bs,rfl⟩:=allBo_ok (cs:=cs) h ha.2
  have hv : v = .bool b:=ha.1
  exact ⟨b :: bs,by rw [hv];rfl⟩
 | [],_ :: _,_,ha=>ha.elim
 | _ :: _,[],_,ha=>ha.elim
 | .num _ _ :: _,_ :: _,h,_ | .int _ _ :: _,_ :: _,h,_ | .str _ :: _,_ :: _,h,_ | .nil :: _,_ :: _,h,_ | .ptr _ _ _ _ :: _,_ :: _,h,_
 | .sli _ _ _ _ _ _ _ :: _,_ :: _,h,_ | .own _ _ _ _ :: _,_ :: _,h,_ | .nos :: _,_ :: _,h,_ | .fn _ :: _,_ :: _,h,_=>by cases h
theorem idxOut_ok {μ : Mu} {K : SV -> Prop} {v : Bool} : ∀ {cs : List SC} {k : Int} {bs : List Bool},All2 (SC.ok μ) cs (bs.map Value.bool) -> (idxOut cs v k).wp K -> K (one (.num .i64 (idxGo v k bs)))
 | [],k,[],_,h=>h
 | .boo b :: cs,k,u :: bs,ha,h=>by
  have hu : Value.bool u = .bool b:=ha.1
  cases hu
  cases v <;> cases b <;> simp only [idxOut,Bool.false_eq_true,if_false,if_true] at h
  ·simpa [idxGo,Out.wp] using h.2 rfl
  ·simpa [idxGo] using idxOut_ok ha.2 (h.1 rfl)
  ·simpa [idxGo] using idxOut_ok ha.2 (h.2 rfl)
  ·simpa [idxGo,Out.wp] using h.1 rfl
 | .tru b :: cs,k,u :: bs,ha,h=>by
  have hu : Value.bool u = .bool b:=ha.1
  cases hu
  cases v <;> cases b <;> simp only [idxOut,beq_self_eq_true,if_true] at h
  ·simpa [idxGo,Out.wp] using h
  ·simpa [idxGo] using idxOut_ok (k:=k + 1) ha.2 h
  ·simpa [idxGo] using idxOut_ok (k:=k + 1) ha.2 h
  ·simpa [idxGo,Out.wp] using h
 | [],_,_ :: _,ha,_=>ha.elim
 | _ :: _,_,[],ha,_=>ha.elim
 | .num _ _ :: _,_,_ :: _,_,h | .int _ _ :: _,_,_ :: _,_,h | .str _ :: _,_,_ :: _,_,h | .nil :: _,_,_ :: _,_,h | .ptr _ _ _ _ :: _,_,_ :: _,_,h
 | .sli _ _ _ _ _ _ _ :: _,_,_ :: _,_,h | .own _ _ _ _ :: _,_,_ :: _,_,h | .nos :: _,_,_ :: _,_,h | .fn _ :: _,_,_ :: _,_,h=>h.elim
set_option maxRecDepth 100000 in
theorem idx_calls (a : Addr) (w : World) (b o c : Nat) (B : Nat -> Bool) (v : Bool) (hc : 8 <= c) (hm : c <= maxLen) (hx : ∀ i,i < 8 -> w.cell? ⟨b,o + i,none⟩ = some (.bool (B i))) :
  Calls Tryz.prog 195 #[.slice (some ⟨b,o,none⟩) 8 c,.bool v] w fun e w'=>e = .returned (.int .i64 (idxGo v 0 [B 0,B 1,B 2,B 3,B 4,B 5,B 6,B 7])) /\ Below w.heap.size w w':=by
 let μ : Mu:=⟨fun n=>if n = 0 then some ⟨b,o,.slice (some ⟨b,o,none⟩) 8 c⟩ else none,fun _ _=>none⟩
 have hmu : μ 0 = some ⟨b,o,.slice (some ⟨b,o,none⟩) 8 c⟩:=rfl
 have hn : ∀ n l,μ n = some l -> n = 0:=fun n l h=>by
  rcases Nat.eq_zero_or_pos n with h0 | h0
  ·exact h0
  ·have : μ n = none:=if_neg (by omega)
   rw [this] at h;cases h
 have hh : ∀ n k,hIdx B n = some k -> n = 0 /\ k = .view 1 8 fun i=>[.boo (B i)]:=fun n k h=>by
  unfold hIdx at h
  split at h
  ·rename_i e;exact ⟨e,(Option.some.inj h).symm⟩
  ·cases h
 have hM : HeapM μ (hIdx B) w:=by
  refine ⟨fun n k hk=>?_,fun n m k c l q x hne hk hc=>?_,fun _ _ _ h=>(by cases h),fun _ _ _ _ _ _ _ _=>rfl⟩
  ·obtain ⟨rfl,rfl⟩:=hh n k hk
   refine ⟨_,hmu,fun hl=>World.block_lt_of_cell? w _ (hx 0 (by omega)),fun i hi=>⟨rfl,fun j c hj=>?_⟩⟩
   match j,hj with
   | 0,hj=>cases hj;exact ⟨_,by simpa using hx i hi,rfl⟩
   | j + 1,hj=>simp at hj
  ·exact absurd ((hh n k hk).1.trans (hh m c hc).1.symm) hne
 have hvc:=idx_vc c B v
 unfold idxVC at hvc
 have hbd : Tryz.f195.body = some (Tryz.f195.body.getD .skip):=rfl
 refine (fn_sound (envL_nil _) mixed (ctl1 2 idxAnn) Tryz.func195 hbd (I:=fun _=>False) (args:=[one (.sli 0 0 1 0 8 c false),one (.boo v)]) (vals:=[.slice (some ⟨b,o,none⟩) 8 c,.bool v]) (next:=1)
  ⟨⟨_,some ⟨b,o,none⟩,hmu,rfl,fun _=>rfl,hc,hm⟩,rfl,trivial⟩ hM (fun n l hl=>by rw [hn n l hl];exact Nat.zero_lt_one) (fun n k l x hk hl hx=>?_) (fun _ _ _ h=>by cases h) hvc).mono fun e w' he=>?_
 ·obtain ⟨rfl,rfl⟩:=hh n k hk
  cases hx
 ·obtain ⟨v,sv,μ',s,a,rfl,hm',hok,hk⟩:=he
  have h3:=leV_ok0 hk hok
  have hv : v = _:=h3
  subst hv
  exact ⟨rfl,⟨hm'.fr.os,hm'.fr.tape,hm'.fr.output,hm'.fr.size,fun x hx=>hm'.fr.block x hx fun h=>h⟩⟩
theorem idx_ok : SpecOk Tryz.prog 195 idxSpec:=by
 intro μ hh w base args vals hm ha hfr K hk
 unfold idxSpec at hk ⊢
 split at hk
 ·rename_i b i j c q v
  obtain ⟨u1,u2,rfl⟩ : ∃ u1 u2,vals = [u1,u2]:=by
   match vals,ha with
   | [u1,u2],_=>exact ⟨u1,u2,rfl⟩
   | [],ha=>exact ha.elim
   | [_],ha=>exact ha.2.elim
   | _ :: _ :: _ :: _,ha=>exact ha.2.2.elim
  obtain ⟨⟨l,a,hl,rfl,hpa,hnc,hcm⟩,h2,_⟩:=ha
  have h2 : u2 = .bool v:=h2
  subst h2
  simp only [Req.pre,List.append_nil,List.map_cons,List.map_nil] at hk
  split at hk
  ·rename_i k hb
   simp at hb
   split at hk
   ·rename_i cs hg
    split at hk
    ·rename_i hall
     obtain ⟨_,hk⟩:=oAst_ok hk
     obtain ⟨l',hl',hok⟩:=hm.ok b k hb
     rw [hl] at hl';cases hl'
     obtain ⟨vs,h1,h2,h3⟩:=blkGet_ok hok hg trivial
     obtain ⟨bs,rfl⟩:=allBo_ok hall h2
     have hlen : bs.length = 8:=by simpa using h1
     match bs,hlen with
     | [b0,b1,b2,b3,b4,b5,b6,b7],_=>
      have hk':=idxOut_ok h2 (Out.wp_bind.1 hk)
      obtain rfl:=hpa (by omega)
      refine (idx_calls ⟨l.b,0,none⟩ w l.b (l.off + (i * 0 + j)) c (fun n=>[b0,b1,b2,b3,b4,b5,b6,b7].getD n false) v hnc hcm fun i hi=>?_).mono fun e w' he=>?_
      ·match i,hi with
       | 0,_=>exact h3 0 _ rfl
       | 1,_=>exact h3 1 _ rfl
       | 2,_=>exact h3 2 _ rfl
       | 3,_=>exact h3 3 _ rfl
       | 4,_=>exact h3 4 _ rfl
       | 5,_=>exact h3 5 _ rfl
       | 6,_=>exact h3 6 _ rfl
       | 7,_=>exact h3 7 _ rfl
       | n + 8,hi=>omega
      ·obtain ⟨rfl,g3⟩:=he
       exact ⟨_,μ,⟨_,[],[]⟩,rfl,hk',Eff0.eff hm { ext:=Ext.refl μ,dom:=fun _ _ h=>.inl h,val:=rfl,os:=g3.os,tape:=g3.tape,output:=g3.output,size:=g3.size,keep:=fun x hx _=>g3.block x hx,wrs:=List.nodup_nil,wsl:=rfl,nsl:=by simp,olds:=fun j n b' h=>by simp at h,news:=fun j b h=>by simp at h,newsApart:=fun j k b c l m x _ h=>by simp at h }⟩
    ·exact hk.elim
   ·exact hk.elim
  ·exact hk.elim
 ·exact hk.elim
end Zx.Zr
namespace Zx.Zr
open Go Go.Proofs Go.RowKit
def tabL (T : List Bool × List Int) : List SC:=[.boo (T.1.getD 0 false),.boo (T.1.getD 1 false),.boo (T.1.getD 2 false),.boo (T.1.getD 3 false),.boo (T.1.getD 4 false),.boo (T.1.getD 5 false),.boo (T.1.getD 6 false),.boo (T.1.getD 7 false),.int .i64 (T.2.getD 0 0),.int .i64 (T.2.getD 1 0),.int .i64 (T.2.getD 2 0),.int .i64 (T.2.getD 3 0),.int .i64 (T.2.getD 4 0),.int .i64 (T.2.getD 5 0),.int .i64 (T.2.getD 6 0),.int .i64 (T.2.getD 7 0)]
def takeC : Con0:={ pat:=[.a tabK,.c (.i .i64)],out:=fun L=>.eqn (takeG (gBs L 0 8) (gIs L 8 8) (gI L 16)) fun r=>.ret (.t [.a (tabL r.1),.c (.int .i64 r.2.1),.c (.int .i64 r.2.2)]) }
def freeC : Con0:={ pat:=[.a tabK,.c (.i .i64)],out:=fun L=>.eqn (freeG (gBs L 0 8) (gIs L 8 8) (gI L 16)) fun r=>.ret (.t [.a (tabL r.1),.c (.int .i64 r.2)]) }
def findGC : Con0:={ pat:=[.a tabK,.c (.i .i64)],out:=fun L=>.eqn (findG (gBs L 0 8) (gIs L 8 8) (gI L 16)) fun r=>.ret (.t [.c (.int .i64 r.1),.c (.boo r.2)]) }
def firstGC : Con0:={ pat:=[.a tabK],out:=fun L=>.eqn (firstG (gBs L 0 8) (gIs L 8 8)) fun r=>.ret (.t [.c (.int .i64 r.1),.c (.boo r.2)]) }
def maskGC : Con0:={ pat:=[.a tabK],out:=fun L=>rI (maskG (gBs L 0 8) (gIs L 8 8)) }
def maskAnn : Ann where
 A:=Int
 names:=fun s=>[ptrN (s.slots.getD 1 .u)]
 st:=fun k m s=>{ s with slots:=((keepS [10] 0 s.slots).set 11 (one (.num .i64 (Int.ofNat k)))).set 3 (one (.int .i64 m)) }
 inv:=fun s k m=>maskGo 0 (match s.slots.getD 10 .u with
  | .s (.a cs)=>cBs cs 0 8
  | _=>[]) 0 = maskGo k (match s.slots.getD 10 .u with
  | .s (.a cs)=>cBs cs k (8 - k)
  | _=>[]) m
 wit:=fun s=>intN (s.slots.getD 3 .u)
 lit:=some 8
def envB : List (FuncId × Spec):=[(32,goodTC.spec),(197,slot8C.spec),(59,addrC.spec),(58,findC.spec),(195,idxSpec)]
def ctlS (i : Nat) : Ctl:={ lp:=fun _=>none,cut:=fun _=>none,fuel:=0,spl:=fun j=>if j = i then some (1,0,8) else none }
theorem envB_ok : EnvOk Tryz.prog (envL envB):=
 envL_cons ⟨_,Tryz.func32,rfl,by kernel_rfl⟩ goodT_ok (envL_cons ⟨_,Tryz.func197,rfl,by kernel_rfl⟩ slot8_ok (envL_cons ⟨_,Tryz.func59,rfl,by kernel_rfl⟩ addrS_ok (envL_cons ⟨_,Tryz.func58,rfl,by kernel_rfl⟩ findS_ok (envL_cons ⟨_,Tryz.func195,rfl,by kernel_rfl⟩ idx_ok (envL_nil _)))))
set_option maxRecDepth 100000 in
set_option maxHeartbeats 8000000 in
theorem findG_vc (b0 b1 b2 b3 b4 b5 b6 b7 : Bool) (a0 a1 a2 a3 a4 a5 a6 a7 x : Int) : findGC.vc Tryz.prog (envL envB) noCtl Tryz.f61 [.B b0,.B b1,.B b2,.B b3,.B b4,.B b5,.B b6,.B b7,.I a0,.I a1,.I a2,.I a3,.I a4,.I a5,.I a6,.I a7,.I x]:=of_eq (b:=let w1:=[a0,a1,a2,a3,a4,a5,a6,a7];let w0:=[b0,b1,b2,b3,b4,b5,b6,b7];∀ (x_1 : Bool),x_1 = goodGo w0 w1 0 w0 w1 -> ((!x_1) = true -> ∀ (y : Int × Bool),y = findG w0 w1 x -> 0 = y.1 /\ false = y.2 /\ True) /\ ((!x_1) = false -> ∀ (x_2 : Int × Bool),x_2 = findGo 0 w0 w1 x -> ∀ (y : Int × Bool),y = findG w0 w1 x -> x_2.1 = y.1 /\ x_2.2 = y.2 /\ True)) (by kernel_rfl) (by
 dsimp only
 repeat' (first | apply And.intro | apply Lf.mk | intro _)
 all_goals first
  | trivial
  | (simp_all [findG];done))
set_option maxRecDepth 100000 in
set_option maxHeartbeats 8000000 in
theorem firstG_vc (b0 b1 b2 b3 b4 b5 b6 b7 : Bool) (a0 a1 a2 a3 a4 a5 a6 a7 : Int) : firstGC.vc Tryz.prog (envL envB) noCtl Tryz.f141 [.B b0,.B b1,.B b2,.B b3,.B b4,.B b5,.B b6,.B b7,.I a0,.I a1,.I a2,.I a3,.I a4,.I a5,.I a6,.I a7]:=of_eq (b:=let w1:=[a0,a1,a2,a3,a4,a5,a6,a7];let w0:=[b0,b1,b2,b3,b4,b5,b6,b7];let v0:=fun (x : Bool)=>(!x) = true -> ∀ (y : Int × Bool),y = firstG w0 w1 -> 0 = y.1 /\ false = y.2 /\ True;(b0 = true -> ∀ (x : Bool),x = goodGo w0 w1 0 w0 w1 -> ((v0 x)) /\ ((!x) = false -> ∀ (y : Int × Bool),y = firstG w0 w1 -> 0 = y.1 /\ true = y.2 /\ True)) /\ (b0 = false -> (b1 = true -> ∀ (x : Bool),x = goodGo w0 w1 0 w0 w1 -> ((v0 x)) /\ ((!x) = false -> ∀ (y : Int × Bool),y = firstG w0 w1 -> 1 = y.1 /\ true = y.2 /\ True)) /\ (b1 = false -> (b2 = true -> ∀ (x : Bool),x = goodGo w0 w1 0 w0 w1 -> ((v0 x)) /\ ((!x) = false -> ∀ (y : Int × Bool),y = firstG w0 w1 -> 2 = y.1 /\ true = y.2 /\ True)) /\ (b2 = false -> (b3 = true -> ∀ (x : Bool),x = goodGo w0 w1 0 w0 w1 -> ((v0 x)) /\ ((!x) = false -> ∀ (y : Int × Bool),y = firstG w0 w1 -> 3 = y.1 /\ true = y.2 /\ True)) /\ (b3 = false -> (b4 = true -> ∀ (x : Bool),x = goodGo w0 w1 0 w0 w1 -> ((v0 x)) /\ ((!x) = false -> ∀ (y : Int × Bool),y = firstG w0 w1 -> 4 = y.1 /\ true = y.2 /\ True)) /\ (b4 = false -> (b5 = true -> ∀ (x : Bool),x = goodGo w0 w1 0 w0 w1 -> ((v0 x)) /\ ((!x) = false -> ∀ (y : Int × Bool),y = firstG w0 w1 -> 5 = y.1 /\ true = y.2 /\ True)) /\ (b5 = false -> (b6 = true -> ∀ (x : Bool),x = goodGo w0 w1 0 w0 w1 -> ((v0 x)) /\ ((!x) = false -> ∀ (y : Int × Bool),y = firstG w0 w1 -> 6 = y.1 /\ true = y.2 /\ True)) /\ (b6 = false -> (b7 = true -> ∀ (x : Bool),x = goodGo w0 w1 0 w0 w1 -> ((v0 x)) /\ ((!x) = false -> ∀ (y : Int × Bool),y = firstG w0 w1 -> 7 = y.1 /\ true = y.2 /\ True)) /\ (b7 = false -> ∀ (y : Int × Bool),y = firstG w0 w1 -> 0 = y.1 /\ false = y.2 /\ True))))))))) (by kernel_rfl) (by
 dsimp only
 repeat' (first | apply And.intro | apply Lf.mk | intro _)
 all_goals first
  | trivial
  | (simp_all [firstG,idxGo];done))
set_option maxRecDepth 100000 in
set_option maxHeartbeats 8000000 in
theorem takeG_vc (b0 b1 b2 b3 b4 b5 b6 b7 : Bool) (a0 a1 a2 a3 a4 a5 a6 a7 x : Int) : takeC.vc Tryz.prog (envL envB) noCtl Tryz.f139 [.B b0,.B b1,.B b2,.B b3,.B b4,.B b5,.B b6,.B b7,.I a0,.I a1,.I a2,.I a3,.I a4,.I a5,.I a6,.I a7,.I x]:=of_eq (b:=let w1:=[a0,a1,a2,a3,a4,a5,a6,a7];let w0:=[b0,b1,b2,b3,b4,b5,b6,b7];let v0:=∀ (y : (List Bool × List Int) × Int × Int),y = takeG w0 w1 x -> (eB b0 b1 b2 b3 b4 b5 b6 b7 y.1.1 (oI a0 a1 a2 a3 a4 a5 a6 a7 y.1.2)) /\ 0 = y.2.1 /\ 1 = y.2.2 /\ True;∀ (x_1 : Bool),x_1 = goodGo w0 w1 0 w0 w1 -> ((!x_1) = true -> v0) /\ ((!x_1) = false -> ∀ (x_2 : Bool),x_2 = addrB x -> ((!x_2) = true -> v0) /\ ((!x_2) = false -> ∀ (x_3 : Int × Bool),x_3 = findGo 0 w0 w1 x -> (x_3.2 = true -> ∀ (y : (List Bool × List Int) × Int × Int),y = takeG w0 w1 x -> (eB b0 b1 b2 b3 b4 b5 b6 b7 y.1.1 (oI a0 a1 a2 a3 a4 a5 a6 a7 y.1.2)) /\ 0 = y.2.1 /\ 7 = y.2.2 /\ True) /\ (x_3.2 = false -> (b0 = true -> (b1 = true -> (b2 = true -> (b3 = true -> (b4 = true -> (b5 = true -> (b6 = true -> (b7 = true -> ∀ (y : (List Bool × List Int) × Int × Int),y = takeG w0 w1 x -> (eB b0 b1 b2 b3 b4 b5 b6 b7 y.1.1 (oI a0 a1 a2 a3 a4 a5 a6 a7 y.1.2)) /\ 0 = y.2.1 /\ 5 = y.2.2 /\ True) /\ (b7 = false -> ∀ (y : (List Bool × List Int) × Int × Int),y = takeG w0 w1 x -> (eB b0 b1 b2 b3 b4 b5 b6 true y.1.1 (oI a0 a1 a2 a3 a4 a5 a6 x y.1.2)) /\ 7 = y.2.1 /\ 0 = y.2.2 /\ True)) /\ (b6 = false -> ∀ (y : (List Bool × List Int) × Int × Int),y = takeG w0 w1 x -> (eB b0 b1 b2 b3 b4 b5 true b7 y.1.1 (oI a0 a1 a2 a3 a4 a5 x a7 y.1.2)) /\ 6 = y.2.1 /\ 0 = y.2.2 /\ True)) /\ (b5 = false -> ∀ (y : (List Bool × List Int) × Int × Int),y = takeG w0 w1 x -> (eB b0 b1 b2 b3 b4 true b6 b7 y.1.1 (oI a0 a1 a2 a3 a4 x a6 a7 y.1.2)) /\ 5 = y.2.1 /\ 0 = y.2.2 /\ True)) /\ (b4 = false -> ∀ (y : (List Bool × List Int) × Int × Int),y = takeG w0 w1 x -> (eB b0 b1 b2 b3 true b5 b6 b7 y.1.1 (oI a0 a1 a2 a3 x a5 a6 a7 y.1.2)) /\ 4 = y.2.1 /\ 0 = y.2.2 /\ True)) /\ (b3 = false -> ∀ (y : (List Bool × List Int) × Int × Int),y = takeG w0 w1 x -> (eB b0 b1 b2 true b4 b5 b6 b7 y.1.1 (oI a0 a1 a2 x a4 a5 a6 a7 y.1.2)) /\ 3 = y.2.1 /\ 0 = y.2.2 /\ True)) /\ (b2 = false -> ∀ (y : (List Bool × List Int) × Int × Int),y = takeG w0 w1 x -> (eB b0 b1 true b3 b4 b5 b6 b7 y.1.1 (oI a0 a1 x a3 a4 a5 a6 a7 y.1.2)) /\ 2 = y.2.1 /\ 0 = y.2.2 /\ True)) /\ (b1 = false -> ∀ (y : (List Bool × List Int) × Int × Int),y = takeG w0 w1 x -> (eB b0 true b2 b3 b4 b5 b6 b7 y.1.1 (oI a0 x a2 a3 a4 a5 a6 a7 y.1.2)) /\ 1 = y.2.1 /\ 0 = y.2.2 /\ True)) /\ (b0 = false -> ∀ (y : (List Bool × List Int) × Int × Int),y = takeG w0 w1 x -> (eB true b1 b2 b3 b4 b5 b6 b7 y.1.1 (oI x a1 a2 a3 a4 a5 a6 a7 y.1.2)) /\ 0 = y.2.1 /\ 0 = y.2.2 /\ True))))) (by kernel_rfl) (by
 dsimp only [jB,jI,eB,eI,uB,uI,oB,oI,eK]
 repeat' (first | apply And.intro | apply Lf.mk | intro _)
 all_goals first
  | trivial
  | (simp_all [takeG,idxGo];done))
set_option maxRecDepth 100000 in
theorem findG_ok : SpecOk Tryz.prog 61 findGC.spec:=findGC.ok envB_ok mixed (C:=noCtl) Tryz.func61 rfl fun L h _=>by
 obtain ⟨b0,b1,b2,b3,b4,b5,b6,b7,a0,a1,a2,a3,a4,a5,a6,a7,_,rfl,h1⟩:=fit_tab h
 obtain ⟨x,_,rfl,h2⟩:=fit_i h1
 obtain rfl:=fit_nil h2
 exact findG_vc b0 b1 b2 b3 b4 b5 b6 b7 a0 a1 a2 a3 a4 a5 a6 a7 x
set_option maxRecDepth 100000 in
theorem firstG_ok : SpecOk Tryz.prog 141 firstGC.spec:=firstGC.ok envB_ok mixed (C:=noCtl) Tryz.func141 rfl fun L h _=>by
 obtain ⟨b0,b1,b2,b3,b4,b5,b6,b7,a0,a1,a2,a3,a4,a5,a6,a7,_,rfl,h1⟩:=fit_tab h
 obtain rfl:=fit_nil h1
 exact firstG_vc b0 b1 b2 b3 b4 b5 b6 b7 a0 a1 a2 a3 a4 a5 a6 a7
set_option maxRecDepth 100000 in
theorem takeG_ok : SpecOk Tryz.prog 139 takeC.spec:=takeC.ok envB_ok mixed (C:=noCtl) Tryz.func139 rfl fun L h _=>by
 obtain ⟨b0,b1,b2,b3,b4,b5,b6,b7,a0,a1,a2,a3,a4,a5,a6,a7,_,rfl,h1⟩:=fit_tab h
 obtain ⟨x,_,rfl,h2⟩:=fit_i h1
 obtain rfl:=fit_nil h2
 exact takeG_vc b0 b1 b2 b3 b4 b5 b6 b7 a0 a1 a2 a3 a4 a5 a6 a7 x
end Zx.Zr
namespace Zx.Zr
open Go Go.Proofs Go.RowKit
theorem slot8_bd {x : Int} {z : Bool} (hz : z = slot8 x) (h : (!z) = false) : 0 ≤ x ∧ x < 8:=by
  subst hz;simpa [slot8] using h
set_option maxRecDepth 100000 in
set_option maxHeartbeats 8000000 in
theorem freeG_vc (b0 b1 b2 b3 b4 b5 b6 b7 : Bool) (a0 a1 a2 a3 a4 a5 a6 a7 x : Int) : freeC.vc Tryz.prog (envL envB) (ctlS 5) Tryz.f142 [.B b0,.B b1,.B b2,.B b3,.B b4,.B b5,.B b6,.B b7,.I a0,.I a1,.I a2,.I a3,.I a4,.I a5,.I a6,.I a7,.I x]:=of_eq (b:=let w1:=[a0,a1,a2,a3,a4,a5,a6,a7];let w0:=[b0,b1,b2,b3,b4,b5,b6,b7];let v0:=Lf (0 ≤ x ∧ x < 8) ∧ (x = 0 → ∀ (y : (List Bool × List Int) × Int),y = freeG w0 w1 x → (eB false b1 b2 b3 b4 b5 b6 b7 y.1.1 (oI 0 a1 a2 a3 a4 a5 a6 a7 y.1.2)) ∧ 0 = y.2 ∧ True) ∧ (x = 1 → ∀ (y : (List Bool × List Int) × Int),y = freeG w0 w1 x → (eB b0 false b2 b3 b4 b5 b6 b7 y.1.1 (oI a0 0 a2 a3 a4 a5 a6 a7 y.1.2)) ∧ 0 = y.2 ∧ True) ∧ (x = 2 → ∀ (y : (List Bool × List Int) × Int),y = freeG w0 w1 x → (eB b0 b1 false b3 b4 b5 b6 b7 y.1.1 (oI a0 a1 0 a3 a4 a5 a6 a7 y.1.2)) ∧ 0 = y.2 ∧ True) ∧ (x = 3 → ∀ (y : (List Bool × List Int) × Int),y = freeG w0 w1 x → (eB b0 b1 b2 false b4 b5 b6 b7 y.1.1 (oI a0 a1 a2 0 a4 a5 a6 a7 y.1.2)) ∧ 0 = y.2 ∧ True) ∧ (x = 4 → ∀ (y : (List Bool × List Int) × Int),y = freeG w0 w1 x → (eB b0 b1 b2 b3 false b5 b6 b7 y.1.1 (oI a0 a1 a2 a3 0 a5 a6 a7 y.1.2)) ∧ 0 = y.2 ∧ True) ∧ (x = 5 → ∀ (y : (List Bool × List Int) × Int),y = freeG w0 w1 x → (eB b0 b1 b2 b3 b4 false b6 b7 y.1.1 (oI a0 a1 a2 a3 a4 0 a6 a7 y.1.2)) ∧ 0 = y.2 ∧ True) ∧ (x = 6 → ∀ (y : (List Bool × List Int) × Int),y = freeG w0 w1 x → (eB b0 b1 b2 b3 b4 b5 false b7 y.1.1 (oI a0 a1 a2 a3 a4 a5 0 a7 y.1.2)) ∧ 0 = y.2 ∧ True) ∧ (x = 7 → ∀ (y : (List Bool × List Int) × Int),y = freeG w0 w1 x → (eB b0 b1 b2 b3 b4 b5 b6 false y.1.1 (oI a0 a1 a2 a3 a4 a5 a6 0 y.1.2)) ∧ 0 = y.2 ∧ True) ∧ True;let v1:=∀ (y : (List Bool × List Int) × Int),y = freeG w0 w1 x → (eB b0 b1 b2 b3 b4 b5 b6 b7 y.1.1 (oI a0 a1 a2 a3 a4 a5 a6 a7 y.1.2)) ∧ 6 = y.2 ∧ True;let v2:=∀ (y : (List Bool × List Int) × Int),y = freeG w0 w1 x → (eB b0 b1 b2 b3 b4 b5 b6 b7 y.1.1 (oI a0 a1 a2 a3 a4 a5 a6 a7 y.1.2)) ∧ 1 = y.2 ∧ True;∀ (x_1 : Bool),x_1 = goodGo w0 w1 0 w0 w1 → ((!x_1) = true → v2) ∧ ((!x_1) = false → ∀ (x_2 : Bool),x_2 = slot8 x → ((!x_2) = true → v2) ∧ ((!x_2) = false → Lf (0 ≤ x ∧ x < 8) ∧ (x = 0 → ((!b0) = true → v1) ∧ ((!b0) = false → v0)) ∧ (¬x = 0 → (x = 1 → ((!b1) = true → v1) ∧ ((!b1) = false → v0)) ∧ (¬x = 1 → (x = 2 → ((!b2) = true → v1) ∧ ((!b2) = false → v0)) ∧ (¬x = 2 → (x = 3 → ((!b3) = true → v1) ∧ ((!b3) = false → v0)) ∧ (¬x = 3 → (x = 4 → ((!b4) = true → v1) ∧ ((!b4) = false → v0)) ∧ (¬x = 4 → (x = 5 → ((!b5) = true → v1) ∧ ((!b5) = false → v0)) ∧ (¬x = 5 → (x = 6 → ((!b6) = true → v1) ∧ ((!b6) = false → v0)) ∧ (¬x = 6 → ((!b7) = true → v1) ∧ ((!b7) = false → v0))))))))))) (by kernel_rfl) (by
  dsimp only [jB,jI,eB,eI,uB,uI,oB,oI,eK]
  repeat' (first | apply And.intro | apply Lf.mk | (intro _;exfalso;omega;done) | intro _)
  all_goals first
    | trivial
    | omega
    | (simp_all [freeG];done)
    | (simp_all [freeG,slot8];done)
    | (have hb:=slot8_bd (x:=x) (by assumption) (by assumption);have h7 : x = 7:=by omega
       subst h7;simp_all [freeG,slot8];done)
    | (simp_all [freeG,slot8];done))
set_option maxRecDepth 100000 in
theorem freeG_ok : SpecOk Tryz.prog 142 freeC.spec:=freeC.ok envB_ok mixed (C:=ctlS 5) Tryz.func142 rfl fun L h _=>by
  obtain ⟨b0,b1,b2,b3,b4,b5,b6,b7,a0,a1,a2,a3,a4,a5,a6,a7,_,rfl,h1⟩:=fit_tab h
  obtain ⟨x,_,rfl,h2⟩:=fit_i h1
  obtain rfl:=fit_nil h2
  exact freeG_vc b0 b1 b2 b3 b4 b5 b6 b7 a0 a1 a2 a3 a4 a5 a6 a7 x
end Zx.Zr
namespace Zx.Zr
open Go Go.Proofs Go.RowKit
theorem mask_n1 {k : Nat} {u : Bool} {us : List Bool} {m m' M q : Int} (hM : M = maskGo k (u :: us) m) (h : u = true) (hm : m' = bits .or .i64 m q) (hq : q = 2 ^ k) : M = maskGo (k + 1) us m':=by subst hM;subst hm;subst hq;simp [maskGo,h]
theorem mask_n2 {k : Nat} {u : Bool} {us : List Bool} {m M : Int} (hM : M = maskGo k (u :: us) m) (h : u = false) : M = maskGo (k + 1) us m:=by subst hM;simp [maskGo,h]
theorem mask_e {k : Nat} {U : List Bool} {A : List Int} {m y : Int} {g : Bool} (hy : y = maskG U A) (hM : maskGo 0 U 0 = maskGo k [] m) (hg : (!g) = false) (h : g = goodGo U A 0 U A) : m = y:=by
 subst hy;subst h
 simp at hg
 simp [maskG,hg,hM,maskGo]
theorem mask_0 {U : List Bool} {A : List Int} {y : Int} {g : Bool} (hy : y = maskG U A) (hg : (!g) = true) (h : g = goodGo U A 0 U A) : 0 = y:=by
 subst hy;subst h
 simp at hg
 simp [maskG,hg]
attribute [local irreducible] maskGo goodGo
set_option maxRecDepth 100000 in
set_option maxHeartbeats 8000000 in
theorem maskG_vc (b0 b1 b2 b3 b4 b5 b6 b7 : Bool) (a0 a1 a2 a3 a4 a5 a6 a7 : Int) : maskGC.vc Tryz.prog (envL envB) (ctl1 5 maskAnn) Tryz.f34 [.B b0,.B b1,.B b2,.B b3,.B b4,.B b5,.B b6,.B b7,.I a0,.I a1,.I a2,.I a3,.I a4,.I a5,.I a6,.I a7]:=of_eq (b:=let w2:=[b1,b2,b3,b4,b5,b6,b7];let w1:=[a0,a1,a2,a3,a4,a5,a6,a7];let w0:=[b0,b1,b2,b3,b4,b5,b6,b7];let v0:=(b0 = b0 /\ b1 = b1 /\ b2 = b2 /\ b3 = b3 /\ b4 = b4 /\ b5 = b5 /\ b6 = b6 /\ b7 = b7 /\ a0 = a0 /\ a1 = a1 /\ a2 = a2 /\ a3 = a3 /\ a4 = a4 /\ a5 = a5 /\ a6 = a6 /\ a7 = a7) /\ True;let v1:=b0 = b0 /\ b1 = b1 /\ b2 = b2 /\ b3 = b3 /\ b4 = b4 /\ b5 = b5 /\ b6 = b6 /\ b7 = b7;let v2:=fun (x_1 : Int)=>((x_1 = x_1 /\ (v1) /\ (2 : Int) = 2 /\ True) /\ v0) /\ Lf (maskGo 0 w0 0 = maskGo 2 [b2,b3,b4,b5,b6,b7] x_1);let v3:=fun (x_1 : Int)=>((x_1 = x_1 /\ (v1) /\ (3 : Int) = 3 /\ True) /\ v0) /\ Lf (maskGo 0 w0 0 = maskGo 3 [b3,b4,b5,b6,b7] x_1);let v4:=fun (x_1 : Int)=>((x_1 = x_1 /\ (v1) /\ (4 : Int) = 4 /\ True) /\ v0) /\ Lf (maskGo 0 w0 0 = maskGo 4 [b4,b5,b6,b7] x_1);let v5:=fun (x_1 : Int)=>((x_1 = x_1 /\ (v1) /\ (5 : Int) = 5 /\ True) /\ v0) /\ Lf (maskGo 0 w0 0 = maskGo 5 [b5,b6,b7] x_1);let v6:=fun (x_1 : Int)=>((x_1 = x_1 /\ (v1) /\ (6 : Int) = 6 /\ True) /\ v0) /\ Lf (maskGo 0 w0 0 = maskGo 6 [b6,b7] x_1);let v7:=fun (x_1 : Int)=>((x_1 = x_1 /\ (v1) /\ (7 : Int) = 7 /\ True) /\ v0) /\ Lf (maskGo 0 w0 0 = maskGo 7 [b7] x_1);let v8:=fun (x_1 : Int)=>((x_1 = x_1 /\ (v1) /\ (1 : Int) = 1 /\ True) /\ v0) /\ Lf (maskGo 0 w0 0 = maskGo 1 w2 x_1);let v9:=fun (x_1 : Int)=>((x_1 = x_1 /\ (v1) /\ (8 : Int) = 8 /\ True) /\ v0) /\ Lf (maskGo 0 w0 0 = maskGo 8 [] x_1);∀ (x : Bool),x = goodGo w0 w1 0 w0 w1 -> ((!x) = true -> ∀ (y : Int),y = maskG w0 w1 -> 0 = y) /\ ((!x) = false -> ((((0 : Int) = 0 /\ (v1) /\ (0 : Int) = 0 /\ True) /\ v0) /\ Lf (maskGo 0 w0 0 = maskGo 0 w0 0)) /\ (∀ (x : Int),maskGo 0 w0 0 = maskGo 0 w0 x -> (b0 = true -> ∀ (x_1 : Int),x_1 = bits BinOp.or IntKind.i64 x 1 -> (v8 x_1)) /\ (b0 = false -> (v8 x))) /\ (∀ (x : Int),maskGo 0 w0 0 = maskGo 1 w2 x -> (b1 = true -> ∀ (x_1 : Int),x_1 = bits BinOp.or IntKind.i64 x 2 -> (v2 x_1)) /\ (b1 = false -> (v2 x))) /\ (∀ (x : Int),maskGo 0 w0 0 = maskGo 2 [b2,b3,b4,b5,b6,b7] x -> (b2 = true -> ∀ (x_1 : Int),x_1 = bits BinOp.or IntKind.i64 x 4 -> (v3 x_1)) /\ (b2 = false -> (v3 x))) /\ (∀ (x : Int),maskGo 0 w0 0 = maskGo 3 [b3,b4,b5,b6,b7] x -> (b3 = true -> ∀ (x_1 : Int),x_1 = bits BinOp.or IntKind.i64 x 8 -> (v4 x_1)) /\ (b3 = false -> (v4 x))) /\ (∀ (x : Int),maskGo 0 w0 0 = maskGo 4 [b4,b5,b6,b7] x -> (b4 = true -> ∀ (x_1 : Int),x_1 = bits BinOp.or IntKind.i64 x 16 -> (v5 x_1)) /\ (b4 = false -> (v5 x))) /\ (∀ (x : Int),maskGo 0 w0 0 = maskGo 5 [b5,b6,b7] x -> (b5 = true -> ∀ (x_1 : Int),x_1 = bits BinOp.or IntKind.i64 x 32 -> (v6 x_1)) /\ (b5 = false -> (v6 x))) /\ (∀ (x : Int),maskGo 0 w0 0 = maskGo 6 [b6,b7] x -> (b6 = true -> ∀ (x_1 : Int),x_1 = bits BinOp.or IntKind.i64 x 64 -> (v7 x_1)) /\ (b6 = false -> (v7 x))) /\ (∀ (x : Int),maskGo 0 w0 0 = maskGo 7 [b7] x -> (b7 = true -> ∀ (x_1 : Int),x_1 = bits BinOp.or IntKind.i64 x 128 -> (v9 x_1)) /\ (b7 = false -> (v9 x))) /\ ∀ (x : Int),maskGo 0 w0 0 = maskGo 8 [] x -> ∀ (y : Int),y = maskG w0 w1 -> x = y)) (by kernel_rfl) (by
 dsimp only
 repeat' (first | apply And.intro | apply Lf.mk | intro _)
 all_goals first
  | rfl
  | trivial
  | exact mask_0 (by assumption) (by assumption) (by assumption)
  | exact mask_e (by assumption) (by assumption) (by assumption) (by assumption)
  | exact mask_n2 (by assumption) (by assumption)
  | exact mask_n1 (by assumption) (by assumption) (by assumption) (by decide))
set_option maxRecDepth 100000 in
theorem maskG_ok : SpecOk Tryz.prog 34 maskGC.spec:=maskGC.ok envB_ok mixed (C:=ctl1 5 maskAnn) Tryz.func34 rfl fun L h _=>by
 obtain ⟨b0,b1,b2,b3,b4,b5,b6,b7,a0,a1,a2,a3,a4,a5,a6,a7,_,rfl,h1⟩:=fit_tab h
 obtain rfl:=fit_nil h1
 exact maskG_vc b0 b1 b2 b3 b4 b5 b6 b7 a0 a1 a2 a3 a4 a5 a6 a7
end Zx.Zr
namespace Zx.Zr
open Go Go.Proofs Go.RowKit
def roomK : List LK:=tabK ++ (stK ++ ([.i .i64,.i .i64,.i .i64,.i .i64,.i .i64,.i .i64,.i .i64,.i .i64] ++ ([.i .i64,.i .i64,.i .i64,.i .i64,.i .i64,.i .i64,.i .i64,.i .i64] ++ [.b])))
def gRm (L : List Leaf) : RV:=⟨gBs L 0 8,gIs L 8 8,gS L 16,gIs L 22 8,gIs L 30 8,gB L 38⟩
def i8L (l : List Int) : List SC:=[.int .i64 (l.getD 0 0),.int .i64 (l.getD 1 0),.int .i64 (l.getD 2 0),.int .i64 (l.getD 3 0),.int .i64 (l.getD 4 0),.int .i64 (l.getD 5 0),.int .i64 (l.getD 6 0),.int .i64 (l.getD 7 0)]
def roomL (r : RV) : List SC:=tabL (r.u,r.a) ++ (stL r.k ++ (i8L r.s ++ (i8L r.c ++ [.boo r.o])))
def goodRmC : Con0:={ pat:=[.a roomK],out:=fun L=>rB (goodRm (gRm L)) }
def findRmC : Con0:={ pat:=[.a roomK,.c (.i .i64)],out:=fun L=>.eqn (findRm (gRm L) (gI L 39)) fun r=>.ret (.t [.c (.int .i64 r.1),.c (.int .i64 r.2)]) }
def goneC : Con0:={ pat:=[.a roomK,.c (.i .i64),.c (.i .i64)],pre:=some fun L=>0 <= gI L 39 /\ gI L 39 < 8,out:=fun L=>.eqn (goneG (gRm L) (gI L 39) (gI L 40)) fun r=>.ret (.s (.a (roomL r))) }
def joinRmC : Con0:={ pat:=[.a roomK,.c (.i .i64),.c (.i .i64)],out:=fun L=>.eqn (joinRm (gRm L) (gI L 39) (gI L 40)) fun r=>.ret (.t [.a (roomL r.1),.c (.int .i64 r.2.1),.c (.int .i64 r.2.2)]) }
def leaveRmC : Con0:={ pat:=[.a roomK,.c (.i .i64),.c (.i .i64)],out:=fun L=>.eqn (leaveRm (gRm L) (gI L 39) (gI L 40)) fun r=>.ret (.t [.a (roomL r.1),.c (.int .i64 r.2)]) }
def kickRmC : Con0:={ pat:=[.a roomK,.c (.i .i64),.c (.i .i64),.c (.i .i64)],out:=fun L=>.eqn (kickRm (gRm L) (gI L 39) (gI L 40) (gI L 41)) fun r=>.ret (.t [.a (roomL r.1),.c (.int .i64 r.2)]) }
def aliveRmC : Con0:={ pat:=[.a roomK,.c (.i .i64),.c (.i .i64)],out:=fun L=>.eqn (aliveRm (gRm L) (gI L 39) (gI L 40)) fun r=>.ret (.t [.a (roomL r.1),.c (.int .i64 r.2)]) }
def haveRmC : Con0:={ pat:=[.a roomK,.c (.i .i64),.c (.i .i64)],out:=fun L=>.eqn (haveRm (gRm L) (gI L 39) (gI L 40)) fun r=>.ret (.t [.a (roomL r.1),.c (.boo r.2.1),.c (.int .i64 r.2.2)]) }
def goodRmAnn : Ann where
 A:=Unit
 names:=fun s=>[ptrN (s.slots.getD 1 .u)]
 st:=fun k _ s=>{ s with slots:=((keepS [1,18] 0 s.slots).set 19 (one (.num .i64 (Int.ofNat k)))) }
 inv:=fun s k _=>match cellsN (s.heap (ptrN (s.slots.getD 1 .u))) with
  | cs=>chkGo (cellI cs 16) (cBs cs 0 8) (cIs cs 22 8) (cIs cs 30 8) = chkGo (cellI cs 16) (cBs cs k (8 - k)) (cIs cs (22 + k) (8 - k)) (cIs cs (30 + k) (8 - k))
 wit:=fun _=>()
 lit:=some 8
def ctlP (i t : Nat) : Ctl:={ lp:=fun _=>none,cut:=fun _=>none,fuel:=0,spl:=fun j=>if j = i then some (t,0,8) else none }
def lateC : Con0:={ pat:=[.a stK,.c (.i .i64)],out:=fun L=>rI (lateF (gS L 0) (gI L 6)) }
def envM0 : List (FuncId × Spec):=[(147,raiseC.spec),(146,ackC.spec),(140,joinC.spec),(16,comC.spec),(33,goodC.spec),(93,lateC.spec),(142,freeC.spec),(139,takeC.spec),(32,goodTC.spec),(61,findGC.spec),(141,firstGC.spec),(34,maskGC.spec)]
def envM1 : List (FuncId × Spec):=(15,goodRmC.spec) :: (94,goneC.spec) :: envM0
def envM2 : List (FuncId × Spec):=(97,findRmC.spec) :: envM1
theorem fit_room {ks : List LK} {L : List Leaf} (h0 : fits (roomK ++ ks) L = true) : ∃ b0 b1 b2 b3 b4 b5 b6 b7 a0 a1 a2 a3 a4 a5 a6 a7 ep op nx nd hv bn s0 s1 s2 s3 s4 s5 s6 s7 c0 c1 c2 c3 c4 c5 c6 c7 o L',L = .B b0 :: .B b1 :: .B b2 :: .B b3 :: .B b4 :: .B b5 :: .B b6 :: .B b7 :: .I a0 :: .I a1 :: .I a2 :: .I a3 :: .I a4 :: .I a5 :: .I a6 :: .I a7 :: .I ep :: .B op :: .I nx :: .I nd :: .I hv :: .I bn :: .I s0 :: .I s1 :: .I s2 :: .I s3 :: .I s4 :: .I s5 :: .I s6 :: .I s7 :: .I c0 :: .I c1 :: .I c2 :: .I c3 :: .I c4 :: .I c5 :: .I c6 :: .I c7 :: .B o :: L' /\ fits ks L' = true:=by
 obtain ⟨b0,L0,rfl,h1⟩:=fit_b h0
 obtain ⟨b1,L1,rfl,h2⟩:=fit_b h1
 obtain ⟨b2,L2,rfl,h3⟩:=fit_b h2
 obtain ⟨b3,L3,rfl,h4⟩:=fit_b h3
 obtain ⟨b4,L4,rfl,h5⟩:=fit_b h4
 obtain ⟨b5,L5,rfl,h6⟩:=fit_b h5
 obtain ⟨b6,L6,rfl,h7⟩:=fit_b h6
 obtain ⟨b7,L7,rfl,h8⟩:=fit_b h7
 obtain ⟨a0,L8,rfl,h9⟩:=fit_i h8
 obtain ⟨a1,L9,rfl,h10⟩:=fit_i h9
 obtain ⟨a2,L10,rfl,h11⟩:=fit_i h10
 obtain ⟨a3,L11,rfl,h12⟩:=fit_i h11
 obtain ⟨a4,L12,rfl,h13⟩:=fit_i h12
 obtain ⟨a5,L13,rfl,h14⟩:=fit_i h13
 obtain ⟨a6,L14,rfl,h15⟩:=fit_i h14
 obtain ⟨a7,L15,rfl,h16⟩:=fit_i h15
 obtain ⟨ep,L16,rfl,h17⟩:=fit_i h16
 obtain ⟨op,L17,rfl,h18⟩:=fit_b h17
 obtain ⟨nx,L18,rfl,h19⟩:=fit_i h18
 obtain ⟨nd,L19,rfl,h20⟩:=fit_i h19
 obtain ⟨hv,L20,rfl,h21⟩:=fit_i h20
 obtain ⟨bn,L21,rfl,h22⟩:=fit_i h21
 obtain ⟨s0,L22,rfl,h23⟩:=fit_i h22
 obtain ⟨s1,L23,rfl,h24⟩:=fit_i h23
 obtain ⟨s2,L24,rfl,h25⟩:=fit_i h24
 obtain ⟨s3,L25,rfl,h26⟩:=fit_i h25
 obtain ⟨s4,L26,rfl,h27⟩:=fit_i h26
 obtain ⟨s5,L27,rfl,h28⟩:=fit_i h27
 obtain ⟨s6,L28,rfl,h29⟩:=fit_i h28
 obtain ⟨s7,L29,rfl,h30⟩:=fit_i h29
 obtain ⟨c0,L30,rfl,h31⟩:=fit_i h30
 obtain ⟨c1,L31,rfl,h32⟩:=fit_i h31
 obtain ⟨c2,L32,rfl,h33⟩:=fit_i h32
 obtain ⟨c3,L33,rfl,h34⟩:=fit_i h33
 obtain ⟨c4,L34,rfl,h35⟩:=fit_i h34
 obtain ⟨c5,L35,rfl,h36⟩:=fit_i h35
 obtain ⟨c6,L36,rfl,h37⟩:=fit_i h36
 obtain ⟨c7,L37,rfl,h38⟩:=fit_i h37
 obtain ⟨o,L38,rfl,h39⟩:=fit_b h38
 exact ⟨b0,b1,b2,b3,b4,b5,b6,b7,a0,a1,a2,a3,a4,a5,a6,a7,ep,op,nx,nd,hv,bn,s0,s1,s2,s3,s4,s5,s6,s7,c0,c1,c2,c3,c4,c5,c6,c7,o,L38,rfl,h39⟩
theorem late_ok : SpecOk Tryz.prog 93 lateC.spec:=lateC.of_calls fun L h _ w=>by
 obtain ⟨ep,op,nx,nd,hv,bn,_,rfl,h1⟩:=fit_st h
 obtain ⟨now,_,rfl,h2⟩:=fit_i h1
 obtain rfl:=fit_nil h2
 exact (late_any ep op nx nd hv bn now w).mono fun e w' ⟨h1,h2⟩=>⟨_,one (.int .i64 (lateF ⟨ep,op,nx,nd,hv,bn⟩ now)),h1,rfl,rfl,h2⟩
theorem envM0_ok : EnvOk Tryz.prog (envL envM0):=(envL_cons ⟨_,Tryz.func147,rfl,by kernel_rfl⟩ raise_ok (envL_cons ⟨_,Tryz.func146,rfl,by kernel_rfl⟩ ack_ok (envL_cons ⟨_,Tryz.func140,rfl,by kernel_rfl⟩ join_ok (envL_cons ⟨_,Tryz.func16,rfl,by kernel_rfl⟩ com_ok (envL_cons ⟨_,Tryz.func33,rfl,by kernel_rfl⟩ good_ok (envL_cons ⟨_,Tryz.func93,rfl,by kernel_rfl⟩ late_ok (envL_cons ⟨_,Tryz.func142,rfl,by kernel_rfl⟩ freeG_ok (envL_cons ⟨_,Tryz.func139,rfl,by kernel_rfl⟩ takeG_ok (envL_cons ⟨_,Tryz.func32,rfl,by kernel_rfl⟩ goodT_ok (envL_cons ⟨_,Tryz.func61,rfl,by kernel_rfl⟩ findG_ok (envL_cons ⟨_,Tryz.func141,rfl,by kernel_rfl⟩ firstG_ok (envL_cons ⟨_,Tryz.func34,rfl,by kernel_rfl⟩ maskG_ok (envL_nil _)))))))))))))
theorem chk_a {ep b s c} {bs : List Bool} {ss cs : List Int} (h0 : (!b) = true) (h1 : s = 0) (h2 : c = 0) (h3 : ¬c < 0) (h4 : ¬ep < c) : chkGo ep (b :: bs) (s :: ss) (c :: cs) = chkGo ep bs ss cs:=by simp [chkGo,h1,h2];omega
theorem chk_b {ep b s c} {bs : List Bool} {ss cs : List Int} (h0 : (!b) = false) (h3 : ¬c < 0) (h4 : ¬ep < c) : chkGo ep (b :: bs) (s :: ss) (c :: cs) = chkGo ep bs ss cs:=by
 have : b = true:=by simpa using h0
 simp [chkGo,this];omega
theorem chk_no {ep b s c} {bs : List Bool} {ss cs : List Int} (h : ((!b) = true /\ (¬s = 0 \/ ¬c = 0)) \/ c < 0 \/ ep < c) : chkGo ep (b :: bs) (s :: ss) (c :: cs) = false:=by
 simp only [chkGo]
 rcases h with ⟨h0,h | h⟩ | h | h <;> simp_all
theorem good_no {R : RV} {y : Bool} (hy : y = goodRm R) (h : chkGo R.k.ep R.u R.s R.c = false) : false = y:=by
 subst hy;simp [goodRm,h]
theorem good_end {u : List Bool} {a s c : List Int} {k : RS} {o x z y : Bool} (hy : y = goodRm ⟨u,a,k,s,c,o⟩) (hx : x = goodGo u a 0 u a) (hx' : (!x) = false) (hz : z = goodS k) (hz' : (!z) = false) (h : chkGo k.ep u s c = chkGo k.ep [] [] []) : y = endRm ⟨u,a,k,s,c,o⟩:=by
 subst hy;subst hx;subst hz
 have e1 : gdG u a = true:=by simpa [gdG] using hx'
 have e2 : goodS k = true:=by simpa using hz'
 simp [goodRm,h,chkGo,e1,e2]
theorem good_t {R : RV} {y x : Bool} (hy : y = goodRm R) (hx : x = goodGo R.u R.a 0 R.u R.a) (h : (!x) = true) : false = y:=by
 subst hy;subst hx;simp at h;simp [goodRm,gdG,h]
theorem good_s {R : RV} {y x : Bool} (hy : y = goodRm R) (hx : x = goodS R.k) (h : (!x) = true) : false = y:=by
 subst hy;subst hx;simp at h;simp [goodRm,h]
section
variable {u : List Bool} {a s c : List Int} {k : RS} {o y : Bool} {x z : Int}
theorem end_1 (h : y = endRm ⟨u,a,k,s,c,o⟩) (h1 : (!k.op) = true) (h2 : (!o) = true) : true = y:=by
 subst h;simp at h1 h2;simp [endRm,h1,h2]
theorem end_2 (h : y = endRm ⟨u,a,k,s,c,o⟩) (hm : x = maskG u a) (h1 : (!k.op) = true) (h3 : x = 0) : true = y:=by
 subst h;simp at h1;simp [endRm,h1,← hm,h3]
theorem end_3 (h : y = endRm ⟨u,a,k,s,c,o⟩) (hm : x = maskG u a) (h2 : (!o) = false) (h3 : ¬x = 0) : false = y:=by
 subst h;simp at h2;simp [endRm,h2,← hm,h3]
theorem end_4 (h : y = endRm ⟨u,a,k,s,c,o⟩) (hm : x = maskG u a) (hz : z = bits .andNot .i64 k.nd x) (h1 : z = 0) (h2 : (!o) = true) : true = y:=by
 subst h;simp at h2;simp [endRm,h2,← hm,← hz,h1]
theorem end_5 (h : y = endRm ⟨u,a,k,s,c,o⟩) (hm : x = maskG u a) (hz : z = bits .andNot .i64 k.nd x) (h1 : z = 0) (h3 : x = 0) : true = y:=by
 subst h
 have e1 : bits .andNot .i64 k.nd (maskG u a) = 0:=by rw [← hm,← hz];exact h1
 have e2 : maskG u a = 0:=by rw [← hm];exact h3
 simp only [endRm,decide_eq_true e1,decide_eq_true e2]
 simp
theorem end_7 (h : y = endRm ⟨u,a,k,s,c,o⟩) (hm : x = maskG u a) (hz : z = bits .andNot .i64 k.nd x) (h0 : (!k.op) = false) (h1 : ¬z = 0) : false = y:=by
 subst h;simp at h0;simp [endRm,h0,← hm,← hz,h1]
end
set_option maxHeartbeats 0 in
set_option maxRecDepth 100000 in
theorem goodRm_vc (b0 b1 b2 b3 b4 b5 b6 b7 : Bool) (a0 a1 a2 a3 a4 a5 a6 a7 : Int) (ep : Int) (op : Bool) (nx nd hv bn : Int) (s0 s1 s2 s3 s4 s5 s6 s7 c0 c1 c2 c3 c4 c5 c6 c7 : Int) (o : Bool) : goodRmC.vc Tryz.prog (envL envM0) (ctl1 4 goodRmAnn) Tryz.f15 [.B b0,.B b1,.B b2,.B b3,.B b4,.B b5,.B b6,.B b7,.I a0,.I a1,.I a2,.I a3,.I a4,.I a5,.I a6,.I a7,.I ep,.B op,.I nx,.I nd,.I hv,.I bn,.I s0,.I s1,.I s2,.I s3,.I s4,.I s5,.I s6,.I s7,.I c0,.I c1,.I c2,.I c3,.I c4,.I c5,.I c6,.I c7,.B o]:=of_eq (b:=let w7:=[c1,c2,c3,c4,c5,c6,c7];let w6:=[s1,s2,s3,s4,s5,s6,s7];let w5:=[b1,b2,b3,b4,b5,b6,b7];let w4:=[a0,a1,a2,a3,a4,a5,a6,a7];let w3:=[c0,c1,c2,c3,c4,c5,c6,c7];let w2:=[s0,s1,s2,s3,s4,s5,s6,s7];let w1:=[b0,b1,b2,b3,b4,b5,b6,b7];let w0:=(⟨w1,w4,⟨ep,op,nx,nd,hv,bn⟩,w2,w3,o⟩ : RV);let v0:=(b0 = b0 /\ b1 = b1 /\ b2 = b2 /\ b3 = b3 /\ b4 = b4 /\ b5 = b5 /\ b6 = b6 /\ b7 = b7 /\ a0 = a0 /\ a1 = a1 /\ a2 = a2 /\ a3 = a3 /\ a4 = a4 /\ a5 = a5 /\ a6 = a6 /\ a7 = a7 /\ ep = ep /\ op = op /\ nx = nx /\ nd = nd /\ hv = hv /\ bn = bn /\ s0 = s0 /\ s1 = s1 /\ s2 = s2 /\ s3 = s3 /\ s4 = s4 /\ s5 = s5 /\ s6 = s6 /\ s7 = s7 /\ c0 = c0 /\ c1 = c1 /\ c2 = c2 /\ c3 = c3 /\ c4 = c4 /\ c5 = c5 /\ c6 = c6 /\ c7 = c7 /\ o = o) /\ True;let v1:=b0 = b0 /\ b1 = b1 /\ b2 = b2 /\ b3 = b3 /\ b4 = b4 /\ b5 = b5 /\ b6 = b6 /\ b7 = b7;let v2:=(c1 < 0 -> ∀ (y : Bool),y = goodRm w0 -> false = y) /\ (¬c1 < 0 -> (ep < c1 -> ∀ (y : Bool),y = goodRm w0 -> false = y) /\ (¬ep < c1 -> ((((0 : Nat) = 0 /\ (0 : Nat) = 0) /\ (v1) /\ (2 : Int) = 2 /\ True) /\ v0) /\ Lf (chkGo ep w1 w2 w3 = chkGo ep [b2,b3,b4,b5,b6,b7] [s2,s3,s4,s5,s6,s7] [c2,c3,c4,c5,c6,c7])));let v3:=(c2 < 0 -> ∀ (y : Bool),y = goodRm w0 -> false = y) /\ (¬c2 < 0 -> (ep < c2 -> ∀ (y : Bool),y = goodRm w0 -> false = y) /\ (¬ep < c2 -> ((((0 : Nat) = 0 /\ (0 : Nat) = 0) /\ (v1) /\ (3 : Int) = 3 /\ True) /\ v0) /\ Lf (chkGo ep w1 w2 w3 = chkGo ep [b3,b4,b5,b6,b7] [s3,s4,s5,s6,s7] [c3,c4,c5,c6,c7])));let v4:=(c3 < 0 -> ∀ (y : Bool),y = goodRm w0 -> false = y) /\ (¬c3 < 0 -> (ep < c3 -> ∀ (y : Bool),y = goodRm w0 -> false = y) /\ (¬ep < c3 -> ((((0 : Nat) = 0 /\ (0 : Nat) = 0) /\ (v1) /\ (4 : Int) = 4 /\ True) /\ v0) /\ Lf (chkGo ep w1 w2 w3 = chkGo ep [b4,b5,b6,b7] [s4,s5,s6,s7] [c4,c5,c6,c7])));let v5:=(c7 < 0 -> ∀ (y : Bool),y = goodRm w0 -> false = y) /\ (¬c7 < 0 -> (ep < c7 -> ∀ (y : Bool),y = goodRm w0 -> false = y) /\ (¬ep < c7 -> ((((0 : Nat) = 0 /\ (0 : Nat) = 0) /\ (v1) /\ (8 : Int) = 8 /\ True) /\ v0) /\ Lf (chkGo ep w1 w2 w3 = chkGo ep ([] : List Bool) ([] : List Int) ([] : List Int))));let v6:=(c4 < 0 -> ∀ (y : Bool),y = goodRm w0 -> false = y) /\ (¬c4 < 0 -> (ep < c4 -> ∀ (y : Bool),y = goodRm w0 -> false = y) /\ (¬ep < c4 -> ((((0 : Nat) = 0 /\ (0 : Nat) = 0) /\ (v1) /\ (5 : Int) = 5 /\ True) /\ v0) /\ Lf (chkGo ep w1 w2 w3 = chkGo ep [b5,b6,b7] [s5,s6,s7] [c5,c6,c7])));let v7:=(c5 < 0 -> ∀ (y : Bool),y = goodRm w0 -> false = y) /\ (¬c5 < 0 -> (ep < c5 -> ∀ (y : Bool),y = goodRm w0 -> false = y) /\ (¬ep < c5 -> ((((0 : Nat) = 0 /\ (0 : Nat) = 0) /\ (v1) /\ (6 : Int) = 6 /\ True) /\ v0) /\ Lf (chkGo ep w1 w2 w3 = chkGo ep [b6,b7] [s6,s7] [c6,c7])));let v8:=(c6 < 0 -> ∀ (y : Bool),y = goodRm w0 -> false = y) /\ (¬c6 < 0 -> (ep < c6 -> ∀ (y : Bool),y = goodRm w0 -> false = y) /\ (¬ep < c6 -> ((((0 : Nat) = 0 /\ (0 : Nat) = 0) /\ (v1) /\ (7 : Int) = 7 /\ True) /\ v0) /\ Lf (chkGo ep w1 w2 w3 = chkGo ep [b7] [s7] [c7])));let v9:=(c0 < 0 -> ∀ (y : Bool),y = goodRm w0 -> false = y) /\ (¬c0 < 0 -> (ep < c0 -> ∀ (y : Bool),y = goodRm w0 -> false = y) /\ (¬ep < c0 -> ((((0 : Nat) = 0 /\ (0 : Nat) = 0) /\ (v1) /\ (1 : Int) = 1 /\ True) /\ v0) /\ Lf (chkGo ep w1 w2 w3 = chkGo ep w5 w6 w7)));let v10:=fun (x : Int)=>((!o) = true -> ∀ (y : Bool),y = goodRm w0 -> true = y) /\ ((!o) = false -> (x = 0 -> ∀ (y : Bool),y = goodRm w0 -> true = y) /\ (¬x = 0 -> ∀ (y : Bool),y = goodRm w0 -> false = y));∀ (x : Bool),x = goodGo w1 w4 0 w1 w4 -> ((!x) = true -> ∀ (y : Bool),y = goodRm w0 -> false = y) /\ ((!x) = false -> ∀ (x : Bool),x = goodS (⟨ep,op,nx,nd,hv,bn⟩ : RS) -> ((!x) = true -> ∀ (y : Bool),y = goodRm w0 -> false = y) /\ ((!x) = false -> (((((0 : Nat) = 0 /\ (0 : Nat) = 0) /\ (v1) /\ (0 : Int) = 0 /\ True) /\ v0) /\ Lf (chkGo ep w1 w2 w3 = chkGo ep w1 w2 w3)) /\ (∀ (x : Unit),chkGo ep w1 w2 w3 = chkGo ep w1 w2 w3 -> ((!b0) = true -> (s0 = 0 -> (c0 = 0 -> v9) /\ (¬c0 = 0 -> ∀ (y : Bool),y = goodRm w0 -> false = y)) /\ (¬s0 = 0 -> ∀ (y : Bool),y = goodRm w0 -> false = y)) /\ ((!b0) = false -> v9)) /\ (∀ (x : Unit),chkGo ep w1 w2 w3 = chkGo ep w5 w6 w7 -> ((!b1) = true -> (s1 = 0 -> (c1 = 0 -> v2) /\ (¬c1 = 0 -> ∀ (y : Bool),y = goodRm w0 -> false = y)) /\ (¬s1 = 0 -> ∀ (y : Bool),y = goodRm w0 -> false = y)) /\ ((!b1) = false -> v2)) /\ (∀ (x : Unit),chkGo ep w1 w2 w3 = chkGo ep [b2,b3,b4,b5,b6,b7] [s2,s3,s4,s5,s6,s7] [c2,c3,c4,c5,c6,c7] -> ((!b2) = true -> (s2 = 0 -> (c2 = 0 -> v3) /\ (¬c2 = 0 -> ∀ (y : Bool),y = goodRm w0 -> false = y)) /\ (¬s2 = 0 -> ∀ (y : Bool),y = goodRm w0 -> false = y)) /\ ((!b2) = false -> v3)) /\ (∀ (x : Unit),chkGo ep w1 w2 w3 = chkGo ep [b3,b4,b5,b6,b7] [s3,s4,s5,s6,s7] [c3,c4,c5,c6,c7] -> ((!b3) = true -> (s3 = 0 -> (c3 = 0 -> v4) /\ (¬c3 = 0 -> ∀ (y : Bool),y = goodRm w0 -> false = y)) /\ (¬s3 = 0 -> ∀ (y : Bool),y = goodRm w0 -> false = y)) /\ ((!b3) = false -> v4)) /\ (∀ (x : Unit),chkGo ep w1 w2 w3 = chkGo ep [b4,b5,b6,b7] [s4,s5,s6,s7] [c4,c5,c6,c7] -> ((!b4) = true -> (s4 = 0 -> (c4 = 0 -> v6) /\ (¬c4 = 0 -> ∀ (y : Bool),y = goodRm w0 -> false = y)) /\ (¬s4 = 0 -> ∀ (y : Bool),y = goodRm w0 -> false = y)) /\ ((!b4) = false -> v6)) /\ (∀ (x : Unit),chkGo ep w1 w2 w3 = chkGo ep [b5,b6,b7] [s5,s6,s7] [c5,c6,c7] -> ((!b5) = true -> (s5 = 0 -> (c5 = 0 -> v7) /\ (¬c5 = 0 -> ∀ (y : Bool),y = goodRm w0 -> false = y)) /\ (¬s5 = 0 -> ∀ (y : Bool),y = goodRm w0 -> false = y)) /\ ((!b5) = false -> v7)) /\ (∀ (x : Unit),chkGo ep w1 w2 w3 = chkGo ep [b6,b7] [s6,s7] [c6,c7] -> ((!b6) = true -> (s6 = 0 -> (c6 = 0 -> v8) /\ (¬c6 = 0 -> ∀ (y : Bool),y = goodRm w0 -> false = y)) /\ (¬s6 = 0 -> ∀ (y : Bool),y = goodRm w0 -> false = y)) /\ ((!b6) = false -> v8)) /\ (∀ (x : Unit),chkGo ep w1 w2 w3 = chkGo ep [b7] [s7] [c7] -> ((!b7) = true -> (s7 = 0 -> (c7 = 0 -> v5) /\ (¬c7 = 0 -> ∀ (y : Bool),y = goodRm w0 -> false = y)) /\ (¬s7 = 0 -> ∀ (y : Bool),y = goodRm w0 -> false = y)) /\ ((!b7) = false -> v5)) /\ ∀ (x : Unit),chkGo ep w1 w2 w3 = chkGo ep ([] : List Bool) ([] : List Int) ([] : List Int) -> ∀ (x : Int),x = maskG w1 w4 -> ((!op) = true -> (v10 x)) /\ ((!op) = false -> ∀ (x_1 : Int),x_1 = bits BinOp.andNot IntKind.i64 nd x -> (x_1 = 0 -> (v10 x)) /\ (¬x_1 = 0 -> ∀ (y : Bool),y = goodRm w0 -> false = y))))) (by kernel_rfl) (by
 dsimp only
 repeat' (first | apply And.intro | apply Lf.mk | intro _)
 all_goals first
  | with_reducible trivial
  | with_reducible rfl
  | exact Eq.trans (by assumption) (chk_a (by assumption) (by assumption) (by assumption) (by assumption) (by assumption))
  | exact Eq.trans (by assumption) (chk_b (by assumption) (by assumption) (by assumption))
  | exact good_no (by assumption) (Eq.trans (by assumption) (chk_no (.inr (.inl (by assumption)))))
  | exact good_no (by assumption) (Eq.trans (by assumption) (chk_no (.inr (.inr (by assumption)))))
  | exact good_no (by assumption) (Eq.trans (by assumption) (chk_no (.inl ⟨by assumption,.inl (by assumption)⟩)))
  | exact good_no (by assumption) (Eq.trans (by assumption) (chk_no (.inl ⟨by assumption,.inr (by assumption)⟩)))
  | exact good_t (by assumption) (by assumption) (by assumption)
  | exact good_s (by assumption) (by assumption) (by assumption)
  | exact end_1 (good_end (by assumption) (by assumption) (by assumption) (by assumption) (by assumption) (by assumption)) (by assumption) (by assumption)
  | exact end_2 (good_end (by assumption) (by assumption) (by assumption) (by assumption) (by assumption) (by assumption)) (by assumption) (by assumption) (by assumption)
  | exact end_3 (good_end (by assumption) (by assumption) (by assumption) (by assumption) (by assumption) (by assumption)) (by assumption) (by assumption) (by assumption)
  | exact end_4 (good_end (by assumption) (by assumption) (by assumption) (by assumption) (by assumption) (by assumption)) (by assumption) (by assumption) (by assumption) (by assumption)
  | exact end_5 (good_end (by assumption) (by assumption) (by assumption) (by assumption) (by assumption) (by assumption)) (by assumption) (by assumption) (by assumption) (by assumption)
  | exact end_7 (good_end (by assumption) (by assumption) (by assumption) (by assumption) (by assumption) (by assumption)) (by assumption) (by assumption) (by assumption) (by assumption))
set_option maxRecDepth 100000 in
theorem goodRm_ok : SpecOk Tryz.prog 15 goodRmC.spec:=goodRmC.ok envM0_ok mixed (C:=ctl1 4 goodRmAnn) Tryz.func15 rfl fun L h hp=>by
 obtain ⟨b0,b1,b2,b3,b4,b5,b6,b7,a0,a1,a2,a3,a4,a5,a6,a7,ep,op,nx,nd,hv,bn,s0,s1,s2,s3,s4,s5,s6,s7,c0,c1,c2,c3,c4,c5,c6,c7,o,_,rfl,h1⟩:=fit_room h
 obtain rfl:=fit_nil h1
 exact goodRm_vc b0 b1 b2 b3 b4 b5 b6 b7 a0 a1 a2 a3 a4 a5 a6 a7 ep op nx nd hv bn s0 s1 s2 s3 s4 s5 s6 s7 c0 c1 c2 c3 c4 c5 c6 c7 o
end Zx.Zr
