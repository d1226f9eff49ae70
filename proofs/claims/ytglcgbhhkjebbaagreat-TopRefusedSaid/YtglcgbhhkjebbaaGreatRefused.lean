/- TopRefused: whatever the script, the call answers true, and the script reads as it read. No condition. -/
import Derived.Test.YtglcgbhhkjebbaaGreatRows
import Derived.WalkKit
import Derived.ProofKit
import Derived.Lib.SmallJoins
import Derived.Test.YtglcgbhhkjebbaaGreatProg
import Derived.Deep.Slices
import Derived.Deep.Fields
import Derived.SizedLaws
import Derived.Test.YtglcgbhhkjebbaaGreatK17
import Derived.Test.YtglcgbhhkjebbaaGreatK34
set_option linter.unusedVariables false
set_option linter.unusedSimpArgs false
namespace Go.Proofs.YtglcgbhhkjebbaaGreat.Frame
open Go.ChangeShapes Go.WideShapes Go.RowKit
section
variable {H : Type} {enc : TypeId × Value -> H} {P : Program}
theorem trodAll_below (hl : laidOutB P = true) {W W' : World} (hb : Below W.heap.size W W') (sp : Nat -> Bool) :
  ∀ {ts : List TypeId} {vs : List Value} {ds : List (DataW H)} {ps : List MemPlace},(∀ t ∈ ts,P.readableRec t = true /\ t < P.types.size) →
   DataW.TrodAll enc P W 0 (fun _=>true) true ts vs ds ps -> (∀ x ∈ ps,x.block < W.heap.size) -> (∀ x ∈ ps,sp x.block = true) -> DataW.TrodAll enc P W' 0 sp true ts vs ds ps
 | [],_,_,_,_,h,_,_=>by
  obtain ⟨rfl,rfl,rfl⟩:=trodAll_nil h
  exact trodAll_mk0
 | _ :: _,_,_,_,ht,h,hlt,hsp=>by
  obtain ⟨v,vs,d,ds,p,q,rfl,rfl,rfl,h1,h2⟩:=trodAll_cons h
  obtain ⟨hr,hrow⟩:=ht _ (List.mem_cons_self ..)
  exact ⟨p,q,WideElems.Trod_stays hl hr hrow h1 (fun x hx=>hb.same (hlt x (by simp [hx]))) (fun x hx=>hsp x (by simp [hx])),
   trodAll_below hl hb sp (fun t hm=>ht t (List.mem_cons_of_mem _ hm)) h2 (fun x hx=>hlt x (by simp [hx])) (fun x hx=>hsp x (by simp [hx])),rfl⟩
theorem law_post {f : Func} {s : ChangeSpec} {apart fresh handsOn again : Bool} {W W' : World} {args : Array Value} {ds gs : List (DataW H)} {before : List MemPlace} {tb : TypeId}
  (hW : DataW.Whole enc P f.params.toList s.vars apart W args.toList ds gs before) (hv : s.vars = [])
  (hl : laidOutB P = true) (hts : f.params.toList.all (fun t=>P.readableRec t && decide (t < P.types.size)) = true)
  (hrt : f.resultTypes = #[tb]) (htb : P.underlying tb = some .bool)
  (hf1 : (s.fn H (ds ++ gs)).results = [.lit (.bool true)]) (hf2 : (s.fn H (ds ++ gs)).args = ds) (hf3 : (s.fn H (ds ++ gs)).vars = [])
  (hb : Below W.heap.size W W') : s.post enc P f apart fresh handsOn again W args (.bool true) W':=by
 have hW':=hW
 obtain ⟨p,q,hA,hV,rfl,hz,hn⟩:=hW'
 have hVq : q = []:=by
  rw [hv] at hV
  exact (trodVars_none hV).2
 subst hVq
 have hlt : ∀ x ∈ p,x.block < W.heap.size:=fun x hx=>hW.lt x (by simpa using hx)
 have hts' : ∀ t ∈ f.params.toList,P.readableRec t = true /\ t < P.types.size:=fun t ht=>by
  have:=List.all_eq_true.1 hts t ht
  simpa using this
 have hres : ∀ (b : Nat) (sp : Nat -> Bool) (hd : Bool),DataW.TrodAll enc P W' b sp hd f.resultTypes.toList ((Value.bool true).resultList f.resultTypes.size) [.lit (.bool true)] []:=by
  intro b sp hd
  rw [hrt]
  exact trodAll_mk1 (shut_bool htb _)
 have hargs : ∀ sp : Nat -> Bool,(∀ x ∈ p,sp x.block = true) -> DataW.TrodAll enc P W' 0 sp true f.params.toList args.toList ds p:=fun sp hsp=>trodAll_below hl hb sp hts' hA hlt hsp
 have hold : ∀ x ∈ p,(fun b=>decide (b < W.heap.size)) x.block = true:=fun x hx=>by simpa using hlt x hx
 refine ⟨ds,gs,p ++ [],[],p,[],hW,by rw [hf1];exact hres _ _ _,by rw [hf2];exact hargs _ hold,by rw [hf3,hv];exact rfl,
  World.keptBut_mono (fun x hx=>⟨hx,.inr (.inl (by simpa using hx))⟩) (hb.frame (· ∈ p ++ [])),fun _=>?_⟩
 refine ⟨?_,_,[],([] ++ p) ++ [],⟨[] ++ p,[],trodAll_append (hargs _ (fun _ _=>rfl)) (hres _ _ _),by rw [hv];exact rfl,rfl, ?_, ?_⟩, ?_⟩
 ·intro j t r h1 h2
  rw [hrt] at h1 h2
  match j,h1,h2 with
  | 0,h1,h2=>
   simp [Value.resultList] at h1 h2
   subst h1;subst h2
   exact okWide_bool_mk htb _
 ·intro b off hp
  have hin : MemPlace.cell b off ∈ p:=by simpa using hp
  rw [hb.frozen (hlt _ hin)]
  exact hz b off (by simpa using hin)
 ·intro ha
  have:=hn ha
  simpa using this
 ·intro x hx _
  simpa using hx
end
end Go.Proofs.YtglcgbhhkjebbaaGreat.Frame
namespace VtTop
noncomputable section
open Go Go.Proofs Zx Vx Go.ChangeShapes Go.WideShapes Go.Deep Go.RowKit
theorem cell_heap {w : World} {b o : Nat} {v : Value} (h : w.cell? ⟨b,o,none⟩ = some v) : ∃ (cur : Array Value) (t : TF),w.heap[b]? = some (.cells cur t.1 t.2) /\ cur[o]? = some v:=by
 unfold World.cell? at h
 split at h
 ·rename_i c t f e
  exact ⟨c,(t,f),e,by simpa using h⟩
 ·cases h
theorem nf_of {w : World} {b o : Nat} {cur : Array Value} {t : TF} (hh : w.heap[b]? = some (.cells cur t.1 t.2)) (h : w.frozen? ⟨b,o,none⟩ = false) : NF t.2 o:=by
 obtain ⟨t1,lo,hi⟩:=t
 simp only [World.frozen?,hh,Bool.and_eq_false_iff,decide_eq_false_iff_not] at h
 unfold NF
 simp only []
 omega
def ByteAt (w : World) (b o : Nat) : Prop:=∃ x : Int,w.cell? ⟨b,o,none⟩ = some (.int .u8 x) /\ 0 <= x /\ x <= 255 /\ w.frozen? ⟨b,o,none⟩ = false
def Bts (w : World) (v : Value) : Prop:=∃ (a : Option Addr) (n c : Nat),v = .slice a n c /\ n <= c /\ c <= maxLen /\ (0 < c -> ∃ b o,a = some ⟨b,o,none⟩ /\ ∀ j,j < c -> ByteAt w b (o + j))
structure EvAt (w : World) (b o : Nat) : Prop where
 i0 : ∃ x : Int,w.cell? ⟨b,o,none⟩ = some (.int .i64 x) /\ -9223372036854775808 <= x /\ x <= 9223372036854775807
 i1 : ∃ x : Int,w.cell? ⟨b,o + 1,none⟩ = some (.int .i64 x) /\ -9223372036854775808 <= x /\ x <= 9223372036854775807
 i2 : ∃ x : Int,w.cell? ⟨b,o + 2,none⟩ = some (.int .i64 x) /\ -9223372036854775808 <= x /\ x <= 9223372036854775807
 bs : ∃ v,w.cell? ⟨b,o + 3,none⟩ = some v /\ Bts w v
 nf : ∀ j,j < 4 -> w.frozen? ⟨b,o + j,none⟩ = false
def Evs (w : World) (v : Value) : Prop:=∃ (a : Option Addr) (n c : Nat),v = .slice a n c /\ n <= c /\ c <= maxLen /\ (0 < c -> ∃ b o,a = some ⟨b,o,none⟩ /\ ∀ i,i < c -> EvAt w b (o + i * 4))
section
variable {H : Type} {enc : TypeId × Value -> H} {w : World}
theorem u8_wf {n : Int} (h : (Lit.int .u8 n).wf = true) : 0 <= n /\ n <= 255:=by
 simpa [Lit.wf,IntKind.min,IntKind.max,IntKind.signed,IntKind.bits] using h
theorem i64_wf {n : Int} (h : (Lit.int .i64 n).wf = true) : -9223372036854775808 <= n /\ n <= 9223372036854775807:=by
 simpa [Lit.wf,IntKind.min,IntKind.max,IntKind.signed,IntKind.bits] using h
theorem spot_none {w : World} {a : Addr} {v : Value} (h : w.cell? (a.add 0) = some v) : a = ⟨a.block,a.off,none⟩:=by
 obtain ⟨b,o,s⟩:=a
 cases s with
 | none=>rfl
 | some s=>
  unfold World.cell? at h
  simp only [Addr.add,if_true] at h
  split at h
  ·simp at h
  ·cases h
theorem mem_row {a : Addr} {n i : Nat} (h : i < n) : MemPlace.cell a.block (a.off + i) ∈ MemPlace.row a n:=List.mem_map.2 ⟨i,List.mem_range.2 h,rfl⟩
theorem bts_of {n : Nat} {v : Value} {x : DataW H × List MemPlace} (h : DataW.trod enc Tryz.prog w 0 (fun _=>true) true n 31 [v] = some x) (hf : ∀ b o,MemPlace.cell b o ∈ x.2 -> w.frozen? ⟨b,o,none⟩ = false) : Bts w v:=by
 rcases open_slice1 Tryz.underlying31 (by kernel_rfl) h with ⟨h1,_⟩ | ⟨a,len,cap,m,n',V,D,Pl,h1,_,hl,hm,hmm,hx,hi⟩
 ·obtain rfl : v = .slice none 0 0:=by simpa using h1
  exact ⟨none,0,0,rfl,Nat.le_refl _,Nat.zero_le _,fun h=>absurd h (Nat.lt_irrefl _)⟩
 ·obtain rfl : v = .slice (some a) len cap:=by simpa using h1
  have hm' : m = cap:=by simpa using hmm
  subst hm'
  refine ⟨some a,len,m,rfl,hl,hm,fun h0=>?_⟩
  have ha:=spot_none (hi 0 h0).1
  refine ⟨a.block,a.off,congrArg some ha,fun j hj=>?_⟩
  obtain ⟨c1,c2⟩:=hi j hj
  obtain ⟨y,hy,_,hw⟩:=DataW.trod_int Tryz.underlying5 c2
  simp at hy
  rw [hy,ha,add_plain] at c1
  refine ⟨y,c1,(u8_wf hw).1,(u8_wf hw).2,hf _ _ ?_⟩
  rw [hx]
  exact List.mem_append_left _ (mem_row hj)
theorem list4 {α : Type} {l : List α} (h : l.length = 4) : ∃ a b c d,l = [a,b,c,d]:=by
 match l,h with
 | [a,b,c,d],_=>exact ⟨_,_,_,_,rfl⟩
set_option maxRecDepth 100000 in
theorem ev_of {n : Nat} {cs : List Value} {x : DataW H × List MemPlace} (h : DataW.trod enc Tryz.prog w 0 (fun _=>true) true n 33 cs = some x) (hf : ∀ b o,MemPlace.cell b o ∈ x.2 -> w.frozen? ⟨b,o,none⟩ = false) :
  ∃ (x0 x1 x2 : Int) (v : Value),cs = [.int .i64 x0,.int .i64 x1,.int .i64 x2,v] /\ (-9223372036854775808 <= x0 /\ x0 <= 9223372036854775807) /\ (-9223372036854775808 <= x1 /\ x1 <= 9223372036854775807) /\ (-9223372036854775808 <= x2 /\ x2 <= 9223372036854775807) /\ Bts w v:=by
 obtain ⟨xs,n',_,rfl,hlen,hxl,hfs⟩:=DataW.trod_struct Tryz.underlying33 h
 have h4 : Tryz.prog.cellsOf 33 = 4:=by kernel_rfl
 have c3 : Tryz.prog.cellsOf 3 = 1:=by kernel_rfl
 have c31 : Tryz.prog.cellsOf 31 = 1:=by kernel_rfl
 rw [h4] at hlen
 have hxl : xs.length = 4:=hxl
 clear h
 have f0:=hfs 0 _ rfl
 have f1:=hfs 1 _ rfl
 have f2:=hfs 2 _ rfl
 have f3:=hfs 3 _ rfl
 clear hfs
 obtain ⟨v0,v1,v2,v3,rfl⟩:=list4 hlen
 obtain ⟨y0,y1,y2,y3,rfl⟩:=list4 hxl
 simp only [c3,c31,List.drop_zero,List.drop_succ_cons,List.take_succ_cons,List.take_zero,List.getElem?_cons_zero,List.getElem?_cons_succ] at f0 f1 f2 f3
 obtain ⟨x0,q0,_,w0⟩:=DataW.trod_int Tryz.underlying3 f0
 obtain ⟨x1,q1,_,w1⟩:=DataW.trod_int Tryz.underlying3 f1
 obtain ⟨x2,q2,_,w2⟩:=DataW.trod_int Tryz.underlying3 f2
 obtain rfl : v0 = _:=List.head_eq_of_cons_eq q0
 obtain rfl : v1 = _:=List.head_eq_of_cons_eq q1
 obtain rfl : v2 = _:=List.head_eq_of_cons_eq q2
 exact ⟨x0,x1,x2,v3,rfl,i64_wf w0,i64_wf w1,i64_wf w2,bts_of f3 fun b o hm=>hf b o (List.mem_flatMap.2 ⟨y3,by simp,hm⟩)⟩
theorem evs_of {v : Value} {d : DataW H} {p : List MemPlace} (h : DataW.Trod enc Tryz.prog w 0 (fun _=>true) true 22 v d p) (hv : ∃ a n c,v = .slice a n c) (hf : ∀ b o,MemPlace.cell b o ∈ p -> w.frozen? ⟨b,o,none⟩ = false) : Evs w v:=by
 obtain ⟨a0,n0,c0,rfl⟩:=hv
 obtain ⟨fuel,h⟩:=h
 rcases open_slice Tryz.underlying22 h with ⟨h1,_⟩ | ⟨a,len,cap,m,n',D,Pl,h1,_,hl,hm,hmm,hx,hi⟩
 ·obtain ⟨rfl,rfl,rfl⟩ : a0 = none /\ n0 = 0 /\ c0 = 0:=by simpa [Value.cells] using h1
  exact ⟨none,0,0,rfl,Nat.le_refl _,Nat.zero_le _,fun h=>absurd h (Nat.lt_irrefl _)⟩
 ·obtain ⟨rfl,rfl,rfl⟩ : a0 = some a /\ n0 = len /\ c0 = cap:=by simpa [Value.cells] using h1
  have hm' : m = c0:=by simpa using hmm
  subst hm'
  have h4 : Tryz.prog.cellsOf 33 = 4:=by kernel_rfl
  rw [h4] at hi hx
  simp only [Prod.mk.injEq] at hx
  obtain ⟨_,hp⟩:=hx
  refine ⟨some a,n0,m,rfl,hl,hm,fun h0=>?_⟩
  have ha : a = ⟨a.block,a.off,none⟩:=by
   obtain ⟨cs,g1,_⟩:=hi 0 h0
   obtain ⟨_,gl,g2⟩:=World.cells?_some g1
   have:=g2 0 (by omega)
   rw [add_add] at this
   rw [List.getElem?_eq_getElem (by omega)] at this
   exact spot_none (by simpa using this)
  refine ⟨a.block,a.off,congrArg some ha,fun i hil=>?_⟩
  obtain ⟨cs,g1,g2⟩:=hi i hil
  obtain ⟨_,gl,gc⟩:=World.cells?_some g1
  obtain ⟨x0,x1,x2,v,rfl,b0,b1,b2,hb⟩:=ev_of g2 fun b o hm=>hf b o (by
   rw [hp]
   exact List.mem_append_right _ (List.mem_flatMap.2 ⟨i,List.mem_range.2 hil,hm⟩))
  have cell : ∀ j,j < 4 -> w.cell? ⟨a.block,a.off + i * 4 + j,none⟩ = [Value.int .i64 x0,.int .i64 x1,.int .i64 x2,v][j]?:=fun j hj=>by
   have:=gc j hj
   rw [add_add,ha,add_plain] at this
   rw [← this,Nat.add_assoc]
  exact ⟨⟨x0,cell 0 (by omega),b0⟩,⟨x1,cell 1 (by omega),b1⟩,⟨x2,cell 2 (by omega),b2⟩,⟨v,cell 3 (by omega),hb⟩,fun j hj=>hf _ _ (by
   rw [hp,Nat.add_assoc]
   exact List.mem_append_left _ (mem_row (by omega)))⟩
end
def scS (w : World) (B O C : Nat) : Sig:=fun b o=>open Classical in if b = B /\ O <= o /\ o < O + C * 4 then (zTab 33)[(o - O) % 4]? else if ByteAt w b o /\ ∃ i,i < C /\ ∃ (b' o' n c : Nat),w.cell? ⟨B,O + i * 4 + 3,none⟩ = some (.slice (some ⟨b',o',none⟩) n c) /\ b = b' /\ o' <= o /\ o < o' + c then some (.int 4 .u8 0 255) else none
theorem z33 : zTab 33 = [.int 15 .i64 (-9223372036854775808) 9223372036854775807,.int 16 .i64 (-9223372036854775808) 9223372036854775807,.int 17 .i64 (-9223372036854775808) 9223372036854775807,.sli 18 5 9223372036854775807]:=rfl
theorem z5 : zTab 5 = [.int 4 .u8 0 255]:=rfl
theorem scS_ev {w : World} {B O C i j : Nat} {c : CS} (hi : i < C) (hj : (zTab 33)[j]? = some c) : scS w B O C B (O + i * 4 + j) = some c:=by
 have hj4 : j < 4:=(List.getElem?_eq_some_iff.1 hj).1
 unfold scS
 rw [if_pos ⟨rfl,by omega,by omega⟩,show (O + i * 4 + j - O) % 4 = j by omega]
 exact hj
theorem scS_byte {w : World} {B O C b o : Nat} (hE : ∀ i,i < C -> EvAt w B (O + i * 4)) (hb : ByteAt w b o) (hs : ∃ i,i < C /\ ∃ (b' o' n c : Nat),w.cell? ⟨B,O + i * 4 + 3,none⟩ = some (.slice (some ⟨b',o',none⟩) n c) /\ b = b' /\ o' <= o /\ o < o' + c) : scS w B O C b o = some (.int 4 .u8 0 255):=by
 unfold scS
 rw [if_neg ?_,if_pos ⟨hb,hs⟩]
 rintro ⟨rfl,h1,h2⟩
 obtain ⟨x,hx,_⟩:=hb
 obtain ⟨i,j,hi,hj,rfl⟩ : ∃ i j,i < C /\ j < 4 /\ o = O + i * 4 + j:=⟨(o - O) / 4,(o - O) % 4,by omega,by omega,by omega⟩
 have e:=hE i hi
 match j,hj with
 | 0,_=>obtain ⟨y,hy,_⟩:=e.i0;rw [Nat.add_zero] at hx;rw [hy] at hx;cases hx
 | 1,_=>obtain ⟨y,hy,_⟩:=e.i1;rw [hy] at hx;cases hx
 | 2,_=>obtain ⟨y,hy,_⟩:=e.i2;rw [hy] at hx;cases hx
 | 3,_=>
  obtain ⟨y,hy,a,n,c,rfl,_⟩:=e.bs
  rw [hy] at hx;cases hx
theorem scS_bts {w : World} {B O C i : Nat} {v : Value} (hE : ∀ i,i < C -> EvAt w B (O + i * 4)) (hi : i < C) (hc : w.cell? ⟨B,O + i * 4 + 3,none⟩ = some v) (hb : Bts w v) : (CS.sli 18 5 9223372036854775807).ok (scS w B O C) v:=by
 obtain ⟨a,n,c,rfl,h1,h2,h3⟩:=hb
 have hml : maxLen = 9223372036854775807:=rfl
 refine ⟨a,n,c,rfl,h1,h2,by omega,fun h0=>?_⟩
 obtain ⟨b,o,rfl,h4⟩:=h3 h0
 refine ⟨b,o,rfl,fun j hj k c' hk=>?_⟩
 rw [z5] at hk ⊢
 match k,hk with
 | 0,hk=>
  cases hk
  have:=scS_byte hE (h4 j hj) ⟨i,hi,b,o,n,c,hc,rfl,by omega,by omega⟩
  simpa using this
 | k + 1,hk=>simp at hk
theorem scS_ok {w : World} {B O C : Nat} (hE : ∀ i,i < C -> EvAt w B (O + i * 4)) : ZoneOk (scS w B O C) w:=fun b o c h=>by
 have h':=h
 unfold scS at h'
 split at h'
 ·rename_i hr
  obtain ⟨rfl,h1,h2⟩:=hr
  obtain ⟨i,j,hi,hj,rfl⟩ : ∃ i j,i < C /\ j < 4 /\ o = O + i * 4 + j:=⟨(o - O) / 4,(o - O) % 4,by omega,by omega,by omega⟩
  rw [show (O + i * 4 + j - O) % 4 = j by omega,z33] at h'
  have e:=hE i hi
  have fin : ∀ v,w.cell? ⟨b,O + i * 4 + j,none⟩ = some v -> c.ok (scS w b O C) v -> ∃ (cur : Array Value) (t : TF) (v : Value),w.heap[b]? = some (.cells cur t.1 t.2) /\ cur[O + i * 4 + j]? = some v /\ c.ok (scS w b O C) v /\ NF t.2 (O + i * 4 + j):=fun v hv hk=>by
   obtain ⟨cur,t,g1,g2⟩:=cell_heap hv
   exact ⟨cur,t,v,g1,g2,hk,nf_of g1 (e.nf j hj)⟩
  match j,hj with
  | 0,_=>obtain ⟨y,hy,hb⟩:=e.i0;cases h';exact fin _ hy ⟨y,rfl,.inr hb⟩
  | 1,_=>obtain ⟨y,hy,hb⟩:=e.i1;cases h';exact fin _ hy ⟨y,rfl,.inr hb⟩
  | 2,_=>obtain ⟨y,hy,hb⟩:=e.i2;cases h';exact fin _ hy ⟨y,rfl,.inr hb⟩
  | 3,_=>obtain ⟨v,hy,hb⟩:=e.bs;cases h';exact fin _ hy (scS_bts hE hi hy hb)
 ·split at h'
  ·rename_i hb
   cases h'
   obtain ⟨⟨x,hx,x0,x1,xf⟩,_⟩:=hb
   obtain ⟨cur,t,g1,g2⟩:=cell_heap hx
   exact ⟨cur,t,_,g1,g2,⟨x,rfl,.inr ⟨x0,x1⟩⟩,nf_of g1 xf⟩
  ·cases h'
theorem scS_tag {w : World} {B O C b o : Nat} {c : CS} (h : scS w B O C b o = some c) : c.tag ∈ [4,15,16,17,18]:=by
 unfold scS at h
 split at h
 ·rename_i hr
  rw [z33] at h
  obtain ⟨j,hj⟩ : ∃ j,(o - O) % 4 = j:=⟨_,rfl⟩
  rw [hj] at h
  match j,h with
  | 0,h=>cases h;decide
  | 1,h=>cases h;decide
  | 2,h=>cases h;decide
  | 3,h=>cases h;decide
  | j + 4,h=>simp at h
 ·split at h
  ·cases h;decide
  ·cases h
theorem script_arg {w : World} {v : Value} (h : Evs w v) : ∃ (sg : Sig) (ρ : Vl),ZoneOk sg w /\ (∀ b o c,sg b o = some c -> c.tag ∈ [4,15,16,17,18]) /\ ((cS 33 0).den ρ).ok (mu sg) v /\ Sat ρ.i (rS 0 9223372036854775807) /\ (ρ.a 0).1 < (w.heap.size : Int):=by
 obtain ⟨a,n,c,rfl,h1,h2,h3⟩:=h
 have hml : maxLen = 9223372036854775807:=rfl
 have sat : ∀ ρ : Vl,ρ.i 0 = 0 -> ρ.i 1 = n -> ρ.i 2 = c -> Sat ρ.i (rS 0 9223372036854775807):=fun ρ e0 e1 e2 l hl=>by
  simp only [rS,List.mem_cons,List.not_mem_nil,or_false] at hl
  rcases hl with rfl | rfl | rfl | rfl | rfl <;> simp only [Lin.var_den,Lin.sub_den,Lin.num_den,Nat.zero_add,Nat.reduceAdd,e0,e1,e2] <;> omega
 rcases Nat.eq_zero_or_pos c with h0 | h0
 ·let ρ : Vl:=⟨fun u=>if u = 1 then (n : Int) else if u = 2 then (c : Int) else 0,fun _=>ByteArray.empty,fun _=>(-1,0),fun _ _=>True⟩
  refine ⟨fun _ _=>none,ρ,fun _ _ _ h=>(by cases h),fun _ _ _ h=>(by cases h), ?_,sat ρ rfl rfl rfl,by show (-1 : Int) < _;omega⟩
  simp only [cS,DC.den,Lin.var_den]
  rw [if_pos (.inr (by show (c : Int) <= 0;omega))]
  exact ⟨a,by simp [ρ],by simpa [ρ] using h1,by simpa [ρ] using h2,fun h=>by simp [ρ] at h;omega⟩
 ·obtain ⟨b,o,rfl,hE⟩:=h3 h0
  let ρ : Vl:=⟨fun u=>if u = 1 then (n : Int) else if u = 2 then (c : Int) else 0,fun _=>ByteArray.empty,fun _=>((b : Int),o),fun _ _=>True⟩
  refine ⟨scS w b o c,ρ,scS_ok hE,fun _ _ _ h=>scS_tag h, ?_,sat ρ rfl rfl rfl, ?_⟩
  ·simp only [cS,DC.den,Lin.var_den]
   rw [if_pos (.inl (by show (0 : Int) <= (b : Int);omega))]
   refine ⟨some ⟨b,o,none⟩,by simp [ρ],by simpa [ρ] using h1,by simpa [ρ] using h2,fun _=>⟨by simp [ρ],fun i hi j c' hj=>?_⟩⟩
   have hi' : i < c:=by simpa [ρ] using hi
   have:=scS_ev (w:=w) (B:=b) (O:=o) hi' hj
   show scS w b o c _ _ = some c'
   simpa [ρ,z33] using this
  ·obtain ⟨y,hy,_⟩:=(hE 0 h0).i0
   obtain ⟨cur,t,g1,_⟩:=cell_heap hy
   have:=heap_lt g1
   show (b : Int) < _
   omega
theorem frm_below {w w' : World} {sg sg' : Sig} {W : Wt} {ow : Nat -> Prop} (hs : ∀ b o c,sg b o = some c -> c.tag ∈ [4,15,16,17,18]) (hf : Frm ⟨w,sg,W,ow⟩ sg' w') (hW : ∀ g ∈ [4,15,16,17,18],g ∉ W.W) (hY : W.Y = none) : Below w.heap.size w w':=
 ⟨hf.os,hf.tape,hf.output,hf.size,fun b hb=>by
  rcases hf.keep b hb with h | ⟨c1,c2,t,h1,h2,h3,h4⟩
  ·exact h
  ·have h1 : w.heap[b]? = _:=h1
   rw [h1,h2]
   congr 2
   refine Array.ext_getElem? fun o=>h4 o fun c hc=>⟨hW _ (hs b o c hc),fun h=>?_⟩
   have:=h.1
   simp only [Wt.hasY,hY] at this
   cases this⟩
end
end VtTop
namespace Go.Proofs.YtglcgbhhkjebbaaGreat
open Go.ChangeShapes Go.WideShapes Go.ChangeAt Go.RowKit
theorem Tryz.own : ownKnob Tryz.prog.godebug = none:=by kernel_rfl
theorem Tryz.laidOut : laidOutB Tryz.prog = true:=by kernel_rfl
theorem slice_val {P : Program} {w : World} {r : Reach} {b0 : Nat} {t e : TypeId} {v : Value} (ht : P.underlying t = some (.slice e)) (hv : Value.okWide P w r b0 t v) : ∃ a n c,v = .slice a n c:=by
 cases v with
 | slice a len cap=>exact ⟨_,_,_,rfl⟩
 | _=>simp [Value.okWide,Cell.okWide,Cell.ok,ht] at hv
theorem refused_calls (W : World) (v : Value) (h : VtTop.Evs W v) : Calls Tryz.prog 6 #[v] W fun x w'=>x = .returned (.bool true) /\ Below W.heap.size W w':=by
 obtain ⟨sg,ρ,hz,ht,hv,hC,ha⟩:=VtTop.script_arg h
 refine (VtTop.ok6.ok sg W ρ [v] hz rfl ⟨hC,fun p hp=>?_,fun _ h=>(by cases h),fun p hp=>?_,fun p hp h=>?_,fun _ h=>(by cases h),fun _ h=>(by cases h)⟩).mono fun e w' he=>?_
 ·rw [List.mem_singleton.1 hp];exact ⟨v,rfl,hv⟩
 ·rw [List.mem_singleton.1 hp];exact ha
 ·rw [List.mem_singleton.1 hp] at h;exact absurd h (by decide)
 ·obtain ⟨u,rfl,sg',_,_,hf,sh,hsh,ρ',_,hp⟩:=he
  obtain rfl:=List.mem_singleton.1 hsh
  obtain ⟨u',h1,h2⟩:=hp.P _ (List.Mem.head _)
  cases h1
  exact ⟨by rw [show u = Value.bool true from h2],VtTop.frm_below ht hf (by decide) rfl⟩
set_option maxRecDepth 100000 in
theorem topRefused_lifted (os : Os) (started : os.Started) (H : Type) (enc : TypeId × Value -> H) :
  ReturnsInHanded {} Tryz.checked os 6 .any (Rows.topRefusedSpec.pre6 enc Tryz.prog Tryz.f6 Rows.topRefusedRow.domain false) (Rows.topRefusedSpec.post enc Tryz.prog Tryz.f6 false true false false):=by
 refine returnsInHanded_of_change (C:=Tryz.checked) Tryz.own started (by kernel_rfl) Tryz.func6
  (ChangeSpec.witness6 (enc:=enc) (C:=Tryz.checked) false ⟨#[],#[Value.slice none 0 0],[]⟩ 8 (by kernel_rfl) (by kernel_rfl) (by kernel_rfl) (by kernel_rfl)) ?_
 intro W base args ds gs before hval0 hW _ _
 have hval : ∀ (j : Nat) t v,Tryz.f6.params[j]? = some t -> args[j]? = some v -> Value.okWide Tryz.prog W .any base t v:=hval0
 clear hval0
 obtain ⟨p,q,hA0,hV,hpq,hfz,_⟩:=id hW
 have hA : DataW.TrodAll enc Tryz.prog W 0 (fun _=>true) true Tryz.f6.params.toList args.toList ds p:=hA0
 rw [Tryz.params6] at hA hval
 obtain ⟨v0,vs0,d0,ds0,p0,q0,hargs,rfl,rfl,h0,r0⟩:=trodAll_cons hA
 obtain ⟨rfl,rfl,rfl⟩:=trodAll_nil r0
 obtain rfl : args = #[v0]:=by cases args;simp_all
 obtain ⟨rfl,rfl⟩:=trodVars_none hV
 have hev:=VtTop.evs_of h0 (slice_val Tryz.underlying22 (hval 0 22 v0 rfl rfl)) fun b o hm=>hfz b o (by rw [hpq];simpa using hm)
 clear hA hA0
 refine (refused_calls W v0 hev).mono fun e W' ⟨he,hw⟩=>?_
 subst he
 exact ⟨_,rfl,Frame.law_post hW rfl Tryz.laidOut (by kernel_rfl) rfl Tryz.underlying4 rfl rfl rfl hw⟩
theorem topRefused_holds : Rows.TopRefusedSaid:=
 OpenClaim.holds_of_wide 6 Tryz.f6 rfl rfl rfl rfl rfl rfl rfl ⟨rfl,rfl,rfl,rfl,rfl⟩ rfl rfl rfl rfl rfl (by kernel_rfl) Tryz.func6 (by kernel_rfl)
  (of_decide_eq_true (by kernel_rfl)) (by unfold Func.isWrapper;first | (rw [if_pos (by decide +kernel)];kernel_rfl) | (rw [if_neg (by decide +kernel)];exact ⟨rfl,rfl⟩))
  (fun os started H enc _=>topRefused_lifted os started H enc)
end Go.Proofs.YtglcgbhhkjebbaaGreat
