/- A part of the proof: lemmas. No condition of its own. -/
import Derived.WalkSpells
import Derived.WalkLawsBesides
import Derived.Outline
import Derived.Deep.RegionHeld3
import Derived.Deep.QuietTactic
import Derived.BigQuiet
import Derived.RegionTactic
import Derived.Lib.Hide
import Derived.Test.YtglcgbhhkjebbaaGreatK07
import Derived.Test.YtglcgbhhkjebbaaGreatK18
set_option linter.unusedVariables false
set_option linter.unusedSimpArgs false
namespace Zx.Zr
open Go Go.Proofs Go.RowKit
theorem bk {W w1 : World} (hb : Below W.heap.size W w1) (b : Nat) (h : b < W.heap.size) : (∀ o,w1.cell? ⟨b,o,none⟩ = W.cell? ⟨b,o,none⟩) /\ (∀ o,w1.frozen? ⟨b,o,none⟩ = W.frozen? ⟨b,o,none⟩):=
 ⟨fun o=>hb.cell (p:=⟨b,o,none⟩) h,fun o=>hb.frozen (p:=⟨b,o,none⟩) h⟩
theorem via {w W w1 : World} (h : Below w.heap.size w W) (hb : Below W.heap.size W w1) : Below w.heap.size w w1:=h.trans (hb.mono h.size)
theorem bal {w W : World} (h : Below w.heap.size w W) (o : Obj) : Below w.heap.size w (W.alloc o):=h.alloc h.size o
theorem slot_any (i : Int) (w : World) : Calls Tryz.prog 196 #[.int .i64 i] w fun x w'=>x = .returned (.bool (slB i)) /\ w = w':=by
 by_cases c1 : 0 <= i
 ·have e : slB i = decide (i < 8):=by simp [slB,c1]
  rw [e]
  clear e
  go_enter Tryz.func196,Tryz.ntmps196
  go_wp2
  go_ret
  exact ⟨rfl,rfl⟩
 ·have e : slB i = false:=by simp [slB];omega
  rw [e]
  clear e
  go_enter Tryz.func196,Tryz.ntmps196
  go_wp2
  go_ret
  exact ⟨rfl,rfl⟩
theorem coming_any (ep : Int) (op : Bool) (nx nd hv bn : Int) (w : World) : Calls Tryz.prog 16 #[.agg #[.int .i64 ep,.bool op,.int .i64 nx,.int .i64 nd,.int .i64 hv,.int .i64 bn]] w fun x w'=>x = .returned (.int .i64 (comS ⟨ep,op,nx,nd,hv,bn⟩)) /\ Below w.heap.size w w':=by
 cases op
 ·go_enter Tryz.func16,Tryz.ntmps16
  go_wp2
  go_ret
  exact ⟨rfl,(by repeat (first | with_reducible exact Below.refl _ _ | (with_reducible refine Below.setCell ?_ (by first | omega | (simp;done) | (simp;omega)) _) | with_reducible refine bal ?_ _ | with_reducible refine Below.drew ?_ | with_reducible refine bdn ?_ _ | with_reducible refine via ?_ (by with_reducible assumption)))⟩
 ·go_enter Tryz.func16,Tryz.ntmps16
  go_wp2
  go_ret
  exact ⟨rfl,(by repeat (first | with_reducible exact Below.refl _ _ | (with_reducible refine Below.setCell ?_ (by first | omega | (simp;done) | (simp;omega)) _) | with_reducible refine bal ?_ _ | with_reducible refine Below.drew ?_ | with_reducible refine bdn ?_ _ | with_reducible refine via ?_ (by with_reducible assumption)))⟩
set_option maxHeartbeats 1000000 in
theorem good_any (ep : Int) (op : Bool) (nx nd hv bn : Int) (w : World) : Calls Tryz.prog 33 #[.agg #[.int .i64 ep,.bool op,.int .i64 nx,.int .i64 nd,.int .i64 hv,.int .i64 bn]] w fun x w'=>x = .returned (.bool (goodS ⟨ep,op,nx,nd,hv,bn⟩)) /\ Below w.heap.size w w':=by
 cases op
 ·go_enter Tryz.func33,Tryz.ntmps33
  go_wp2
  all_goals go_ret
  all_goals refine ⟨?_,(by repeat (first | with_reducible exact Below.refl _ _ | (with_reducible refine Below.setCell ?_ (by first | omega | (simp;done) | (simp;omega)) _) | with_reducible refine bal ?_ _ | with_reducible refine Below.drew ?_ | with_reducible refine bdn ?_ _ | with_reducible refine via ?_ (by with_reducible assumption)))⟩
  all_goals simp [goodS, *]
  all_goals omega
 ·go_enter Tryz.func33,Tryz.ntmps33
  go_wp2
  all_goals go_ret
  all_goals refine ⟨?_,(by repeat (first | with_reducible exact Below.refl _ _ | (with_reducible refine Below.setCell ?_ (by first | omega | (simp;done) | (simp;omega)) _) | with_reducible refine bal ?_ _ | with_reducible refine Below.drew ?_ | with_reducible refine bdn ?_ _ | with_reducible refine via ?_ (by with_reducible assumption)))⟩
  all_goals simp [goodS, *]
  all_goals omega
end Zx.Zr
namespace Zx.Zr
open Go Go.Proofs Go.RowKit
theorem com_bd (s : St) (h : goodS s = true) : 0 <= comS s /\ comS s <= 65535:=by
 unfold goodS at h
 unfold comS
 cases ho : s.op
 ·simp [ho] at h
  simp
  omega
 ·simp [ho] at h
  simp
  omega
set_option maxHeartbeats 2000000 in
theorem raise_any (ep : Int) (op : Bool) (nx nd hv bn : Int) (need now : Int) (w : World) : Calls Tryz.prog 147 #[.agg #[.int .i64 ep,.bool op,.int .i64 nx,.int .i64 nd,.int .i64 hv,.int .i64 bn],.int .i64 need,.int .i64 now] w fun x w'=>x = .returned (.tuple #[.agg #[.int .i64 ((raiseF ⟨ep,op,nx,nd,hv,bn⟩ need now).1).ep,.bool ((raiseF ⟨ep,op,nx,nd,hv,bn⟩ need now).1).op,.int .i64 ((raiseF ⟨ep,op,nx,nd,hv,bn⟩ need now).1).nx,.int .i64 ((raiseF ⟨ep,op,nx,nd,hv,bn⟩ need now).1).nd,.int .i64 ((raiseF ⟨ep,op,nx,nd,hv,bn⟩ need now).1).hv,.int .i64 ((raiseF ⟨ep,op,nx,nd,hv,bn⟩ need now).1).bn],.int .i64 (raiseF ⟨ep,op,nx,nd,hv,bn⟩ need now).2]) /\ Below w.heap.size w w':=by
 cases hg : goodS ⟨ep,op,nx,nd,hv,bn⟩
 ·have e : raiseF ⟨ep,op,nx,nd,hv,bn⟩ need now = (⟨ep,op,nx,nd,hv,bn⟩,1):=by simp [raiseF,hg]
  rw [e]
  dsimp only
  clear e
  go_enter Tryz.func147,Tryz.ntmps147
  go_wp2_with (first | (go_at_call 16;refine (coming_any _ _ _ _ _ _ _).mono ?_;rintro e w1 ⟨rfl,hb1⟩;have hz_w1 : w.heap.size + 2 <= w1.heap.size:=(by have h_:=hb1.size;first | omega | (simp at h_;omega));obtain ⟨hc1,hf1⟩:=bk hb1 (w.heap.size) (by first | omega | (simp;done) | (simp;omega));have hs1 : w.heap.size < w1.heap.size:=(by omega);obtain ⟨hc2,hf2⟩:=bk hb1 (w.heap.size + 1) (by first | omega | (simp;done) | (simp;omega));have hs2 : w.heap.size + 1 < w1.heap.size:=(by omega)) | (go_at_call 33;refine (good_any _ _ _ _ _ _ _).mono ?_;rintro e w2 ⟨rfl,hb2⟩;have hz_w2 : w.heap.size + 2 <= w2.heap.size:=(by have h_:=hb2.size;first | omega | (simp at h_;omega));obtain ⟨hc3,hf3⟩:=bk hb2 (w.heap.size) (by first | omega | (simp;done) | (simp;omega));have hs3 : w.heap.size < w2.heap.size:=(by omega);obtain ⟨hc4,hf4⟩:=bk hb2 (w.heap.size + 1) (by first | omega | (simp;done) | (simp;omega));have hs4 : w.heap.size + 1 < w2.heap.size:=(by omega)))
  exact bodyPost_ret (v:=.tuple #[.agg #[.int .i64 ep,.bool op,.int .i64 nx,.int .i64 nd,.int .i64 hv,.int .i64 bn],.int .i64 1]) (by simp [results,Tryz.results147,go_sem,hc1,hc2,hc3,hc4]) rfl ⟨rfl,(by repeat (first | with_reducible exact Below.refl _ _ | (with_reducible refine Below.setCell ?_ (by first | omega | (simp;done) | (simp;omega)) _) | with_reducible refine bal ?_ _ | with_reducible refine Below.drew ?_ | with_reducible refine bdn ?_ _ | with_reducible refine via ?_ (by with_reducible assumption)))⟩
 have hcb:=com_bd ⟨ep,op,nx,nd,hv,bn⟩ hg
 by_cases h1 : need < 0
 ·have e : raiseF ⟨ep,op,nx,nd,hv,bn⟩ need now = (⟨ep,op,nx,nd,hv,bn⟩,1):=by (have hn : needB need = false:=by (simp [needB];omega));simp [raiseF,hn]
  rw [e]
  dsimp only
  clear e
  go_enter Tryz.func147,Tryz.ntmps147
  go_wp2_with (first | (go_at_call 16;refine (coming_any _ _ _ _ _ _ _).mono ?_;rintro e w1 ⟨rfl,hb1⟩;have hz_w1 : w.heap.size + 2 <= w1.heap.size:=(by have h_:=hb1.size;first | omega | (simp at h_;omega));obtain ⟨hc1,hf1⟩:=bk hb1 (w.heap.size) (by first | omega | (simp;done) | (simp;omega));have hs1 : w.heap.size < w1.heap.size:=(by omega);obtain ⟨hc2,hf2⟩:=bk hb1 (w.heap.size + 1) (by first | omega | (simp;done) | (simp;omega));have hs2 : w.heap.size + 1 < w1.heap.size:=(by omega)) | (go_at_call 33;refine (good_any _ _ _ _ _ _ _).mono ?_;rintro e w2 ⟨rfl,hb2⟩;have hz_w2 : w.heap.size + 2 <= w2.heap.size:=(by have h_:=hb2.size;first | omega | (simp at h_;omega));obtain ⟨hc3,hf3⟩:=bk hb2 (w.heap.size) (by first | omega | (simp;done) | (simp;omega));have hs3 : w.heap.size < w2.heap.size:=(by omega);obtain ⟨hc4,hf4⟩:=bk hb2 (w.heap.size + 1) (by first | omega | (simp;done) | (simp;omega));have hs4 : w.heap.size + 1 < w2.heap.size:=(by omega)))
  exact bodyPost_ret (v:=.tuple #[.agg #[.int .i64 ep,.bool op,.int .i64 nx,.int .i64 nd,.int .i64 hv,.int .i64 bn],.int .i64 1]) (by simp [results,Tryz.results147,go_sem,hc1,hc2,hc3,hc4]) rfl ⟨rfl,(by repeat (first | with_reducible exact Below.refl _ _ | (with_reducible refine Below.setCell ?_ (by first | omega | (simp;done) | (simp;omega)) _) | with_reducible refine bal ?_ _ | with_reducible refine Below.drew ?_ | with_reducible refine bdn ?_ _ | with_reducible refine via ?_ (by with_reducible assumption)))⟩
 by_cases h2 : 255 < need
 ·have e : raiseF ⟨ep,op,nx,nd,hv,bn⟩ need now = (⟨ep,op,nx,nd,hv,bn⟩,1):=by (have hn : needB need = false:=by (simp [needB];omega));simp [raiseF,hn]
  rw [e]
  dsimp only
  clear e
  go_enter Tryz.func147,Tryz.ntmps147
  go_wp2_with (first | (go_at_call 16;refine (coming_any _ _ _ _ _ _ _).mono ?_;rintro e w1 ⟨rfl,hb1⟩;have hz_w1 : w.heap.size + 2 <= w1.heap.size:=(by have h_:=hb1.size;first | omega | (simp at h_;omega));obtain ⟨hc1,hf1⟩:=bk hb1 (w.heap.size) (by first | omega | (simp;done) | (simp;omega));have hs1 : w.heap.size < w1.heap.size:=(by omega);obtain ⟨hc2,hf2⟩:=bk hb1 (w.heap.size + 1) (by first | omega | (simp;done) | (simp;omega));have hs2 : w.heap.size + 1 < w1.heap.size:=(by omega)) | (go_at_call 33;refine (good_any _ _ _ _ _ _ _).mono ?_;rintro e w2 ⟨rfl,hb2⟩;have hz_w2 : w.heap.size + 2 <= w2.heap.size:=(by have h_:=hb2.size;first | omega | (simp at h_;omega));obtain ⟨hc3,hf3⟩:=bk hb2 (w.heap.size) (by first | omega | (simp;done) | (simp;omega));have hs3 : w.heap.size < w2.heap.size:=(by omega);obtain ⟨hc4,hf4⟩:=bk hb2 (w.heap.size + 1) (by first | omega | (simp;done) | (simp;omega));have hs4 : w.heap.size + 1 < w2.heap.size:=(by omega)))
  exact bodyPost_ret (v:=.tuple #[.agg #[.int .i64 ep,.bool op,.int .i64 nx,.int .i64 nd,.int .i64 hv,.int .i64 bn],.int .i64 1]) (by simp [results,Tryz.results147,go_sem,hc1,hc2,hc3,hc4]) rfl ⟨rfl,(by repeat (first | with_reducible exact Below.refl _ _ | (with_reducible refine Below.setCell ?_ (by first | omega | (simp;done) | (simp;omega)) _) | with_reducible refine bal ?_ _ | with_reducible refine Below.drew ?_ | with_reducible refine bdn ?_ _ | with_reducible refine via ?_ (by with_reducible assumption)))⟩
 by_cases hc : 65535 < comS ⟨ep,op,nx,nd,hv,bn⟩ + 1
 ·have e : raiseF ⟨ep,op,nx,nd,hv,bn⟩ need now = (⟨ep,op,nx,nd,hv,bn⟩,11):=by (have hn : needB need = true:=by (simp [needB];omega));simp only [raiseF,hg,hn,Bool.and_self,if_true];rw [if_pos hc]
  rw [e]
  dsimp only
  clear e
  go_enter Tryz.func147,Tryz.ntmps147
  go_wp2_with (first | (go_at_call 16;refine (coming_any _ _ _ _ _ _ _).mono ?_;rintro e w1 ⟨rfl,hb1⟩;have hz_w1 : w.heap.size + 2 <= w1.heap.size:=(by have h_:=hb1.size;first | omega | (simp at h_;omega));obtain ⟨hc1,hf1⟩:=bk hb1 (w.heap.size) (by first | omega | (simp;done) | (simp;omega));have hs1 : w.heap.size < w1.heap.size:=(by omega);obtain ⟨hc2,hf2⟩:=bk hb1 (w.heap.size + 1) (by first | omega | (simp;done) | (simp;omega));have hs2 : w.heap.size + 1 < w1.heap.size:=(by omega)) | (go_at_call 33;refine (good_any _ _ _ _ _ _ _).mono ?_;rintro e w2 ⟨rfl,hb2⟩;have hz_w2 : w.heap.size + 2 <= w2.heap.size:=(by have h_:=hb2.size;first | omega | (simp at h_;omega));obtain ⟨hc3,hf3⟩:=bk hb2 (w.heap.size) (by first | omega | (simp;done) | (simp;omega));have hs3 : w.heap.size < w2.heap.size:=(by omega);obtain ⟨hc4,hf4⟩:=bk hb2 (w.heap.size + 1) (by first | omega | (simp;done) | (simp;omega));have hs4 : w.heap.size + 1 < w2.heap.size:=(by omega)))
  exact bodyPost_ret (v:=.tuple #[.agg #[.int .i64 ep,.bool op,.int .i64 nx,.int .i64 nd,.int .i64 hv,.int .i64 bn],.int .i64 11]) (by simp [results,Tryz.results147,go_sem,hc1,hc2,hc3,hc4]) rfl ⟨rfl,(by repeat (first | with_reducible exact Below.refl _ _ | (with_reducible refine Below.setCell ?_ (by first | omega | (simp;done) | (simp;omega)) _) | with_reducible refine bal ?_ _ | with_reducible refine Below.drew ?_ | with_reducible refine bdn ?_ _ | with_reducible refine via ?_ (by with_reducible assumption)))⟩
 by_cases h3 : need = 0
 ·subst h3
  have e : raiseF ⟨ep,op,nx,nd,hv,bn⟩ 0 now = (⟨comS ⟨ep,op,nx,nd,hv,bn⟩ + 1,false,0,0,0,0⟩,0):=by (have hn : needB 0 = true:=by decide);simp only [raiseF,hg,hn,Bool.and_self,if_true];rw [if_neg hc]
  rw [e]
  dsimp only
  clear e
  go_enter Tryz.func147,Tryz.ntmps147
  go_wp2_with (first | (go_at_call 16;refine (coming_any _ _ _ _ _ _ _).mono ?_;rintro e w1 ⟨rfl,hb1⟩;have hz_w1 : w.heap.size + 2 <= w1.heap.size:=(by have h_:=hb1.size;first | omega | (simp at h_;omega));obtain ⟨hc1,hf1⟩:=bk hb1 (w.heap.size) (by first | omega | (simp;done) | (simp;omega));have hs1 : w.heap.size < w1.heap.size:=(by omega);obtain ⟨hc2,hf2⟩:=bk hb1 (w.heap.size + 1) (by first | omega | (simp;done) | (simp;omega));have hs2 : w.heap.size + 1 < w1.heap.size:=(by omega)) | (go_at_call 33;refine (good_any _ _ _ _ _ _ _).mono ?_;rintro e w2 ⟨rfl,hb2⟩;have hz_w2 : w.heap.size + 2 <= w2.heap.size:=(by have h_:=hb2.size;first | omega | (simp at h_;omega));obtain ⟨hc3,hf3⟩:=bk hb2 (w.heap.size) (by first | omega | (simp;done) | (simp;omega));have hs3 : w.heap.size < w2.heap.size:=(by omega);obtain ⟨hc4,hf4⟩:=bk hb2 (w.heap.size + 1) (by first | omega | (simp;done) | (simp;omega));have hs4 : w.heap.size + 1 < w2.heap.size:=(by omega)))
  exact bodyPost_ret (v:=.tuple #[.agg #[.int .i64 (comS ⟨ep,op,nx,nd,hv,bn⟩ + 1),.bool false,.int .i64 0,.int .i64 0,.int .i64 0,.int .i64 0],.int .i64 0]) (by simp [results,Tryz.results147,go_sem,hc1,hc2,hc3,hc4]) rfl ⟨rfl,(by repeat (first | with_reducible exact Below.refl _ _ | (with_reducible refine Below.setCell ?_ (by first | omega | (simp;done) | (simp;omega)) _) | with_reducible refine bal ?_ _ | with_reducible refine Below.drew ?_ | with_reducible refine bdn ?_ _ | with_reducible refine via ?_ (by with_reducible assumption)))⟩
 ·have e : raiseF ⟨ep,op,nx,nd,hv,bn⟩ need now = (⟨ep,true,comS ⟨ep,op,nx,nd,hv,bn⟩ + 1,need,0,now⟩,0):=by (have hn : needB need = true:=by (simp [needB];omega));simp only [raiseF,hg,hn,Bool.and_self,if_true];rw [if_neg hc,if_neg h3]
  rw [e]
  dsimp only
  clear e
  go_enter Tryz.func147,Tryz.ntmps147
  go_wp2_with (first | (go_at_call 16;refine (coming_any _ _ _ _ _ _ _).mono ?_;rintro e w1 ⟨rfl,hb1⟩;have hz_w1 : w.heap.size + 2 <= w1.heap.size:=(by have h_:=hb1.size;first | omega | (simp at h_;omega));obtain ⟨hc1,hf1⟩:=bk hb1 (w.heap.size) (by first | omega | (simp;done) | (simp;omega));have hs1 : w.heap.size < w1.heap.size:=(by omega);obtain ⟨hc2,hf2⟩:=bk hb1 (w.heap.size + 1) (by first | omega | (simp;done) | (simp;omega));have hs2 : w.heap.size + 1 < w1.heap.size:=(by omega)) | (go_at_call 33;refine (good_any _ _ _ _ _ _ _).mono ?_;rintro e w2 ⟨rfl,hb2⟩;have hz_w2 : w.heap.size + 2 <= w2.heap.size:=(by have h_:=hb2.size;first | omega | (simp at h_;omega));obtain ⟨hc3,hf3⟩:=bk hb2 (w.heap.size) (by first | omega | (simp;done) | (simp;omega));have hs3 : w.heap.size < w2.heap.size:=(by omega);obtain ⟨hc4,hf4⟩:=bk hb2 (w.heap.size + 1) (by first | omega | (simp;done) | (simp;omega));have hs4 : w.heap.size + 1 < w2.heap.size:=(by omega)))
  exact bodyPost_ret (v:=.tuple #[.agg #[.int .i64 ep,.bool true,.int .i64 (comS ⟨ep,op,nx,nd,hv,bn⟩ + 1),.int .i64 need,.int .i64 0,.int .i64 now],.int .i64 0]) (by simp [results,Tryz.results147,go_sem,hc1,hc2,hc3,hc4]) rfl ⟨rfl,(by repeat (first | with_reducible exact Below.refl _ _ | (with_reducible refine Below.setCell ?_ (by first | omega | (simp;done) | (simp;omega)) _) | with_reducible refine bal ?_ _ | with_reducible refine Below.drew ?_ | with_reducible refine bdn ?_ _ | with_reducible refine via ?_ (by with_reducible assumption)))⟩
end Zx.Zr
namespace Zx.Zr
open Go Go.Proofs Go.RowKit
theorem pow_small (i : Int) (h0 : 0 <= i) (h1 : i < 8) : wrap64 (2 ^ i.toNat) = 2 ^ i.toNat:=by
 have h : i = 0 \/ i = 1 \/ i = 2 \/ i = 3 \/ i = 4 \/ i = 5 \/ i = 6 \/ i = 7:=by omega
 rcases h with rfl | rfl | rfl | rfl | rfl | rfl | rfl | rfl <;> first | rfl | (simp [wrap64];done) | decide +kernel
set_option maxHeartbeats 2000000 in
theorem join_any (ep : Int) (op : Bool) (nx nd hv bn : Int) (i : Int) (w : World) : Calls Tryz.prog 140 #[.agg #[.int .i64 ep,.bool op,.int .i64 nx,.int .i64 nd,.int .i64 hv,.int .i64 bn],.int .i64 i] w fun x w'=>x = .returned (.tuple #[.agg #[.int .i64 ((joinF ⟨ep,op,nx,nd,hv,bn⟩ i).1).ep,.bool ((joinF ⟨ep,op,nx,nd,hv,bn⟩ i).1).op,.int .i64 ((joinF ⟨ep,op,nx,nd,hv,bn⟩ i).1).nx,.int .i64 ((joinF ⟨ep,op,nx,nd,hv,bn⟩ i).1).nd,.int .i64 ((joinF ⟨ep,op,nx,nd,hv,bn⟩ i).1).hv,.int .i64 ((joinF ⟨ep,op,nx,nd,hv,bn⟩ i).1).bn],.int .i64 (joinF ⟨ep,op,nx,nd,hv,bn⟩ i).2]) /\ Below w.heap.size w w':=by
 cases hg : goodS ⟨ep,op,nx,nd,hv,bn⟩
 ·have e : joinF ⟨ep,op,nx,nd,hv,bn⟩ i = (⟨ep,op,nx,nd,hv,bn⟩,1):=by simp [joinF,hg]
  rw [e]
  dsimp only
  clear e
  go_enter Tryz.func140,Tryz.ntmps140
  go_wp2_with (first | (go_at_call 33;refine (good_any _ _ _ _ _ _ _).mono ?_;rintro e w2 ⟨rfl,hb2⟩;have hz_w2 : w.heap.size + 2 <= w2.heap.size:=(by have h_:=hb2.size;first | omega | (simp at h_;omega));obtain ⟨hc1,hf1⟩:=bk hb2 (w.heap.size) (by first | omega | (simp;done) | (simp;omega));have hs1 : w.heap.size < w2.heap.size:=(by omega);obtain ⟨hc2,hf2⟩:=bk hb2 (w.heap.size + 1) (by first | omega | (simp;done) | (simp;omega));have hs2 : w.heap.size + 1 < w2.heap.size:=(by omega)) | (go_at_call 196;refine (slot_any _ _).mono ?_;rintro e w' ⟨rfl,rfl⟩))
  exact bodyPost_ret (v:=.tuple #[.agg #[.int .i64 ep,.bool op,.int .i64 nx,.int .i64 nd,.int .i64 hv,.int .i64 bn],.int .i64 1]) (by simp [results,Tryz.results140,go_sem,hc1,hc2]) rfl ⟨rfl,(by repeat (first | with_reducible exact Below.refl _ _ | (with_reducible refine Below.setCell ?_ (by first | omega | (simp;done) | (simp;omega)) _) | with_reducible refine bal ?_ _ | with_reducible refine Below.drew ?_ | with_reducible refine bdn ?_ _ | with_reducible refine via ?_ (by with_reducible assumption)))⟩
 cases hs : slB i
 ·have e : joinF ⟨ep,op,nx,nd,hv,bn⟩ i = (⟨ep,op,nx,nd,hv,bn⟩,1):=by simp [joinF,hs]
  rw [e]
  dsimp only
  clear e
  go_enter Tryz.func140,Tryz.ntmps140
  go_wp2_with (first | (go_at_call 33;refine (good_any _ _ _ _ _ _ _).mono ?_;rintro e w2 ⟨rfl,hb2⟩;have hz_w2 : w.heap.size + 2 <= w2.heap.size:=(by have h_:=hb2.size;first | omega | (simp at h_;omega));obtain ⟨hc1,hf1⟩:=bk hb2 (w.heap.size) (by first | omega | (simp;done) | (simp;omega));have hs1 : w.heap.size < w2.heap.size:=(by omega);obtain ⟨hc2,hf2⟩:=bk hb2 (w.heap.size + 1) (by first | omega | (simp;done) | (simp;omega));have hs2 : w.heap.size + 1 < w2.heap.size:=(by omega)) | (go_at_call 196;refine (slot_any _ _).mono ?_;rintro e w' ⟨rfl,rfl⟩))
  exact bodyPost_ret (v:=.tuple #[.agg #[.int .i64 ep,.bool op,.int .i64 nx,.int .i64 nd,.int .i64 hv,.int .i64 bn],.int .i64 1]) (by simp [results,Tryz.results140,go_sem,hc1,hc2]) rfl ⟨rfl,(by repeat (first | with_reducible exact Below.refl _ _ | (with_reducible refine Below.setCell ?_ (by first | omega | (simp;done) | (simp;omega)) _) | with_reducible refine bal ?_ _ | with_reducible refine Below.drew ?_ | with_reducible refine bdn ?_ _ | with_reducible refine via ?_ (by with_reducible assumption)))⟩
 have hs' : 0 <= i /\ i < 8:=by simpa [slB] using hs
 obtain ⟨i0,i1⟩:=hs'
 have hp:=pow_small i i0 i1
 cases op
 ·have e : joinF ⟨ep,false,nx,nd,hv,bn⟩ i = (⟨ep,false,nx,nd,hv,bn⟩,0):=by simp [joinF,hg,hs]
  rw [e]
  dsimp only
  clear e
  go_enter Tryz.func140,Tryz.ntmps140
  go_wp2_with (first | (go_at_call 33;refine (good_any _ _ _ _ _ _ _).mono ?_;rintro e w2 ⟨rfl,hb2⟩;have hz_w2 : w.heap.size + 2 <= w2.heap.size:=(by have h_:=hb2.size;first | omega | (simp at h_;omega));obtain ⟨hc1,hf1⟩:=bk hb2 (w.heap.size) (by first | omega | (simp;done) | (simp;omega));have hs1 : w.heap.size < w2.heap.size:=(by omega);obtain ⟨hc2,hf2⟩:=bk hb2 (w.heap.size + 1) (by first | omega | (simp;done) | (simp;omega));have hs2 : w.heap.size + 1 < w2.heap.size:=(by omega)) | (go_at_call 196;refine (slot_any _ _).mono ?_;rintro e w' ⟨rfl,rfl⟩))
  exact bodyPost_ret (v:=.tuple #[.agg #[.int .i64 ep,.bool false,.int .i64 nx,.int .i64 nd,.int .i64 hv,.int .i64 bn],.int .i64 0]) (by simp [results,Tryz.results140,go_sem,hc1,hc2]) rfl ⟨rfl,(by repeat (first | with_reducible exact Below.refl _ _ | (with_reducible refine Below.setCell ?_ (by first | omega | (simp;done) | (simp;omega)) _) | with_reducible refine bal ?_ _ | with_reducible refine Below.drew ?_ | with_reducible refine bdn ?_ _ | with_reducible refine via ?_ (by with_reducible assumption)))⟩
 cases hb : bitO nd i
 ·have hb' : (bits .and .i64 (nd / 2 ^ i.toNat) 1 == 1) = false:=hb
  have e : joinF ⟨ep,true,nx,nd,hv,bn⟩ i = (⟨ep,true,nx,bits .or .i64 nd (2 ^ i.toNat),hv,bn⟩,0):=by simp [joinF,hg,hs,hb]
  rw [e]
  dsimp only
  clear e
  go_enter Tryz.func140,Tryz.ntmps140
  go_wp2_with (first | (go_at_call 33;refine (good_any _ _ _ _ _ _ _).mono ?_;rintro e w2 ⟨rfl,hb2⟩;have hz_w2 : w.heap.size + 2 <= w2.heap.size:=(by have h_:=hb2.size;first | omega | (simp at h_;omega));obtain ⟨hc1,hf1⟩:=bk hb2 (w.heap.size) (by first | omega | (simp;done) | (simp;omega));have hs1 : w.heap.size < w2.heap.size:=(by omega);obtain ⟨hc2,hf2⟩:=bk hb2 (w.heap.size + 1) (by first | omega | (simp;done) | (simp;omega));have hs2 : w.heap.size + 1 < w2.heap.size:=(by omega)) | (go_at_call 196;refine (slot_any _ _).mono ?_;rintro e w' ⟨rfl,rfl⟩))
  go_region
  all_goals go_wp2_with fail
  all_goals exact bodyPost_ret (v:=.tuple #[.agg #[.int .i64 ep,.bool true,.int .i64 nx,.int .i64 (bits .or .i64 nd (2 ^ i.toNat)),.int .i64 hv,.int .i64 bn],.int .i64 0]) (by simp [results,Tryz.results140,go_sem,hc1,hc2]) rfl ⟨rfl,(by repeat (first | with_reducible exact Below.refl _ _ | (with_reducible refine Below.setCell ?_ (by first | omega | (simp;done) | (simp;omega)) _) | with_reducible refine bal ?_ _ | with_reducible refine Below.drew ?_ | with_reducible refine bdn ?_ _ | with_reducible refine via ?_ (by with_reducible assumption)))⟩
 ·have hb' : (bits .and .i64 (nd / 2 ^ i.toNat) 1 == 1) = true:=hb
  have e : joinF ⟨ep,true,nx,nd,hv,bn⟩ i = (⟨ep,true,nx,nd,hv,bn⟩,7):=by simp [joinF,hg,hs,hb]
  rw [e]
  dsimp only
  clear e
  go_enter Tryz.func140,Tryz.ntmps140
  go_wp2_with (first | (go_at_call 33;refine (good_any _ _ _ _ _ _ _).mono ?_;rintro e w2 ⟨rfl,hb2⟩;have hz_w2 : w.heap.size + 2 <= w2.heap.size:=(by have h_:=hb2.size;first | omega | (simp at h_;omega));obtain ⟨hc1,hf1⟩:=bk hb2 (w.heap.size) (by first | omega | (simp;done) | (simp;omega));have hs1 : w.heap.size < w2.heap.size:=(by omega);obtain ⟨hc2,hf2⟩:=bk hb2 (w.heap.size + 1) (by first | omega | (simp;done) | (simp;omega));have hs2 : w.heap.size + 1 < w2.heap.size:=(by omega)) | (go_at_call 196;refine (slot_any _ _).mono ?_;rintro e w' ⟨rfl,rfl⟩))
  exact bodyPost_ret (v:=.tuple #[.agg #[.int .i64 ep,.bool true,.int .i64 nx,.int .i64 nd,.int .i64 hv,.int .i64 bn],.int .i64 7]) (by simp [results,Tryz.results140,go_sem,hc1,hc2]) rfl ⟨rfl,(by repeat (first | with_reducible exact Below.refl _ _ | (with_reducible refine Below.setCell ?_ (by first | omega | (simp;done) | (simp;omega)) _) | with_reducible refine bal ?_ _ | with_reducible refine Below.drew ?_ | with_reducible refine bdn ?_ _ | with_reducible refine via ?_ (by with_reducible assumption)))⟩
end Zx.Zr
namespace Zx.Zr
open Go Go.Proofs Go.RowKit
set_option maxHeartbeats 4000000 in
theorem ack_any (ep : Int) (op : Bool) (nx nd hv bn : Int) (i e : Int) (w : World) : Calls Tryz.prog 146 #[.agg #[.int .i64 ep,.bool op,.int .i64 nx,.int .i64 nd,.int .i64 hv,.int .i64 bn],.int .i64 i,.int .i64 e] w fun x w'=>x = .returned (.tuple #[.agg #[.int .i64 ((ackF ⟨ep,op,nx,nd,hv,bn⟩ i e).1).ep,.bool ((ackF ⟨ep,op,nx,nd,hv,bn⟩ i e).1).op,.int .i64 ((ackF ⟨ep,op,nx,nd,hv,bn⟩ i e).1).nx,.int .i64 ((ackF ⟨ep,op,nx,nd,hv,bn⟩ i e).1).nd,.int .i64 ((ackF ⟨ep,op,nx,nd,hv,bn⟩ i e).1).hv,.int .i64 ((ackF ⟨ep,op,nx,nd,hv,bn⟩ i e).1).bn],.bool (ackF ⟨ep,op,nx,nd,hv,bn⟩ i e).2.1,.int .i64 (ackF ⟨ep,op,nx,nd,hv,bn⟩ i e).2.2]) /\ Below w.heap.size w w':=by
 cases hg : goodS ⟨ep,op,nx,nd,hv,bn⟩
 ·have e : ackF ⟨ep,op,nx,nd,hv,bn⟩ i e = (⟨ep,op,nx,nd,hv,bn⟩,false,1):=by simp [ackF,hg]
  rw [e]
  dsimp only
  clear e
  go_enter Tryz.func146,Tryz.ntmps146
  go_wp2_with (first | (go_at_call 33;refine (good_any _ _ _ _ _ _ _).mono ?_;rintro e w2 ⟨rfl,hb2⟩;have hz_w2 : w.heap.size + 2 <= w2.heap.size:=(by have h_:=hb2.size;first | omega | (simp at h_;omega));obtain ⟨hc1,hf1⟩:=bk hb2 (w.heap.size) (by first | omega | (simp;done) | (simp;omega));have hs1 : w.heap.size < w2.heap.size:=(by omega);obtain ⟨hc2,hf2⟩:=bk hb2 (w.heap.size + 1) (by first | omega | (simp;done) | (simp;omega));have hs2 : w.heap.size + 1 < w2.heap.size:=(by omega)) | (go_at_call 196;refine (slot_any _ _).mono ?_;rintro e w' ⟨rfl,rfl⟩))
  exact bodyPost_ret (v:=.tuple #[.agg #[.int .i64 ep,.bool op,.int .i64 nx,.int .i64 nd,.int .i64 hv,.int .i64 bn],.bool false,.int .i64 1]) (by simp [results,Tryz.results146,go_sem,hc1,hc2]) rfl ⟨rfl,(by repeat (first | with_reducible exact Below.refl _ _ | (with_reducible refine Below.setCell ?_ (by first | omega | (simp;done) | (simp;omega)) _) | with_reducible refine bal ?_ _ | with_reducible refine Below.drew ?_ | with_reducible refine bdn ?_ _ | with_reducible refine via ?_ (by with_reducible assumption)))⟩
 cases hs : slB i
 ·have e : ackF ⟨ep,op,nx,nd,hv,bn⟩ i e = (⟨ep,op,nx,nd,hv,bn⟩,false,1):=by simp [ackF,hs]
  rw [e]
  dsimp only
  clear e
  go_enter Tryz.func146,Tryz.ntmps146
  go_wp2_with (first | (go_at_call 33;refine (good_any _ _ _ _ _ _ _).mono ?_;rintro e w2 ⟨rfl,hb2⟩;have hz_w2 : w.heap.size + 2 <= w2.heap.size:=(by have h_:=hb2.size;first | omega | (simp at h_;omega));obtain ⟨hc1,hf1⟩:=bk hb2 (w.heap.size) (by first | omega | (simp;done) | (simp;omega));have hs1 : w.heap.size < w2.heap.size:=(by omega);obtain ⟨hc2,hf2⟩:=bk hb2 (w.heap.size + 1) (by first | omega | (simp;done) | (simp;omega));have hs2 : w.heap.size + 1 < w2.heap.size:=(by omega)) | (go_at_call 196;refine (slot_any _ _).mono ?_;rintro e w' ⟨rfl,rfl⟩))
  exact bodyPost_ret (v:=.tuple #[.agg #[.int .i64 ep,.bool op,.int .i64 nx,.int .i64 nd,.int .i64 hv,.int .i64 bn],.bool false,.int .i64 1]) (by simp [results,Tryz.results146,go_sem,hc1,hc2]) rfl ⟨rfl,(by repeat (first | with_reducible exact Below.refl _ _ | (with_reducible refine Below.setCell ?_ (by first | omega | (simp;done) | (simp;omega)) _) | with_reducible refine bal ?_ _ | with_reducible refine Below.drew ?_ | with_reducible refine bdn ?_ _ | with_reducible refine via ?_ (by with_reducible assumption)))⟩
 have hs' : 0 <= i /\ i < 8:=by simpa [slB] using hs
 obtain ⟨i0,i1⟩:=hs'
 have hp:=pow_small i i0 i1
 cases op
 ·have e : ackF ⟨ep,false,nx,nd,hv,bn⟩ i e = (⟨ep,false,nx,nd,hv,bn⟩,false,12):=by simp [ackF,hg,hs]
  rw [e]
  dsimp only
  clear e
  go_enter Tryz.func146,Tryz.ntmps146
  go_wp2_with (first | (go_at_call 33;refine (good_any _ _ _ _ _ _ _).mono ?_;rintro e w2 ⟨rfl,hb2⟩;have hz_w2 : w.heap.size + 2 <= w2.heap.size:=(by have h_:=hb2.size;first | omega | (simp at h_;omega));obtain ⟨hc1,hf1⟩:=bk hb2 (w.heap.size) (by first | omega | (simp;done) | (simp;omega));have hs1 : w.heap.size < w2.heap.size:=(by omega);obtain ⟨hc2,hf2⟩:=bk hb2 (w.heap.size + 1) (by first | omega | (simp;done) | (simp;omega));have hs2 : w.heap.size + 1 < w2.heap.size:=(by omega)) | (go_at_call 196;refine (slot_any _ _).mono ?_;rintro e w' ⟨rfl,rfl⟩))
  exact bodyPost_ret (v:=.tuple #[.agg #[.int .i64 ep,.bool false,.int .i64 nx,.int .i64 nd,.int .i64 hv,.int .i64 bn],.bool false,.int .i64 12]) (by simp [results,Tryz.results146,go_sem,hc1,hc2]) rfl ⟨rfl,(by repeat (first | with_reducible exact Below.refl _ _ | (with_reducible refine Below.setCell ?_ (by first | omega | (simp;done) | (simp;omega)) _) | with_reducible refine bal ?_ _ | with_reducible refine Below.drew ?_ | with_reducible refine bdn ?_ _ | with_reducible refine via ?_ (by with_reducible assumption)))⟩
 cases hx : nx != e
 case true=>
  have e : ackF ⟨ep,true,nx,nd,hv,bn⟩ i e = (⟨ep,true,nx,nd,hv,bn⟩,false,12):=by (have hxx : (nx == e) = false:=by simpa [bne] using hx);simp only [ackF,hg,hs,hxx,Bool.and_self,Bool.and_false,if_true,Bool.false_eq_true,if_false]
  rw [e]
  dsimp only
  clear e
  go_enter Tryz.func146,Tryz.ntmps146
  go_wp2_with (first | (go_at_call 33;refine (good_any _ _ _ _ _ _ _).mono ?_;rintro e w2 ⟨rfl,hb2⟩;have hz_w2 : w.heap.size + 2 <= w2.heap.size:=(by have h_:=hb2.size;first | omega | (simp at h_;omega));obtain ⟨hc1,hf1⟩:=bk hb2 (w.heap.size) (by first | omega | (simp;done) | (simp;omega));have hs1 : w.heap.size < w2.heap.size:=(by omega);obtain ⟨hc2,hf2⟩:=bk hb2 (w.heap.size + 1) (by first | omega | (simp;done) | (simp;omega));have hs2 : w.heap.size + 1 < w2.heap.size:=(by omega)) | (go_at_call 196;refine (slot_any _ _).mono ?_;rintro e w' ⟨rfl,rfl⟩))
  exact bodyPost_ret (v:=.tuple #[.agg #[.int .i64 ep,.bool true,.int .i64 nx,.int .i64 nd,.int .i64 hv,.int .i64 bn],.bool false,.int .i64 12]) (by simp [results,Tryz.results146,go_sem,hc1,hc2]) rfl ⟨rfl,(by repeat (first | with_reducible exact Below.refl _ _ | (with_reducible refine Below.setCell ?_ (by first | omega | (simp;done) | (simp;omega)) _) | with_reducible refine bal ?_ _ | with_reducible refine Below.drew ?_ | with_reducible refine bdn ?_ _ | with_reducible refine via ?_ (by with_reducible assumption)))⟩
 cases hb : bitZ nd i
 case true=>
  have hb' : (bits .and .i64 (nd / 2 ^ i.toNat) 1 == 0) = true:=hb
  have e : ackF ⟨ep,true,nx,nd,hv,bn⟩ i e = (⟨ep,true,nx,nd,hv,bn⟩,false,6):=by (have hxx : (nx == e) = true:=by simpa [bne] using hx);simp only [ackF,hg,hs,hxx,Bool.and_self,if_true,hb]
  rw [e]
  dsimp only
  clear e
  go_enter Tryz.func146,Tryz.ntmps146
  go_wp2_with (first | (go_at_call 33;refine (good_any _ _ _ _ _ _ _).mono ?_;rintro e w2 ⟨rfl,hb2⟩;have hz_w2 : w.heap.size + 2 <= w2.heap.size:=(by have h_:=hb2.size;first | omega | (simp at h_;omega));obtain ⟨hc1,hf1⟩:=bk hb2 (w.heap.size) (by first | omega | (simp;done) | (simp;omega));have hs1 : w.heap.size < w2.heap.size:=(by omega);obtain ⟨hc2,hf2⟩:=bk hb2 (w.heap.size + 1) (by first | omega | (simp;done) | (simp;omega));have hs2 : w.heap.size + 1 < w2.heap.size:=(by omega)) | (go_at_call 196;refine (slot_any _ _).mono ?_;rintro e w' ⟨rfl,rfl⟩))
  exact bodyPost_ret (v:=.tuple #[.agg #[.int .i64 ep,.bool true,.int .i64 nx,.int .i64 nd,.int .i64 hv,.int .i64 bn],.bool false,.int .i64 6]) (by simp [results,Tryz.results146,go_sem,hc1,hc2]) rfl ⟨rfl,(by repeat (first | with_reducible exact Below.refl _ _ | (with_reducible refine Below.setCell ?_ (by first | omega | (simp;done) | (simp;omega)) _) | with_reducible refine bal ?_ _ | with_reducible refine Below.drew ?_ | with_reducible refine bdn ?_ _ | with_reducible refine via ?_ (by with_reducible assumption)))⟩
 have hb' : (bits .and .i64 (nd / 2 ^ i.toNat) 1 == 0) = false:=hb
 cases hd : bitO hv i
 case true=>
  have hd' : (bits .and .i64 (hv / 2 ^ i.toNat) 1 == 1) = true:=hd
  have e : ackF ⟨ep,true,nx,nd,hv,bn⟩ i e = (⟨ep,true,nx,nd,hv,bn⟩,false,7):=by (have hxx : (nx == e) = true:=by simpa [bne] using hx);simp only [ackF,hg,hs,hxx,Bool.and_self,if_true,hb,hd,Bool.false_eq_true,if_false]
  rw [e]
  dsimp only
  clear e
  go_enter Tryz.func146,Tryz.ntmps146
  go_wp2_with (first | (go_at_call 33;refine (good_any _ _ _ _ _ _ _).mono ?_;rintro e w2 ⟨rfl,hb2⟩;have hz_w2 : w.heap.size + 2 <= w2.heap.size:=(by have h_:=hb2.size;first | omega | (simp at h_;omega));obtain ⟨hc1,hf1⟩:=bk hb2 (w.heap.size) (by first | omega | (simp;done) | (simp;omega));have hs1 : w.heap.size < w2.heap.size:=(by omega);obtain ⟨hc2,hf2⟩:=bk hb2 (w.heap.size + 1) (by first | omega | (simp;done) | (simp;omega));have hs2 : w.heap.size + 1 < w2.heap.size:=(by omega)) | (go_at_call 196;refine (slot_any _ _).mono ?_;rintro e w' ⟨rfl,rfl⟩))
  exact bodyPost_ret (v:=.tuple #[.agg #[.int .i64 ep,.bool true,.int .i64 nx,.int .i64 nd,.int .i64 hv,.int .i64 bn],.bool false,.int .i64 7]) (by simp [results,Tryz.results146,go_sem,hc1,hc2]) rfl ⟨rfl,(by repeat (first | with_reducible exact Below.refl _ _ | (with_reducible refine Below.setCell ?_ (by first | omega | (simp;done) | (simp;omega)) _) | with_reducible refine bal ?_ _ | with_reducible refine Below.drew ?_ | with_reducible refine bdn ?_ _ | with_reducible refine via ?_ (by with_reducible assumption)))⟩
 have hd' : (bits .and .i64 (hv / 2 ^ i.toNat) 1 == 1) = false:=hd
 cases hq : bits .or .i64 hv (2 ^ i.toNat) == nd
 ·have e : ackF ⟨ep,true,nx,nd,hv,bn⟩ i e = (⟨ep,true,nx,nd,bits .or .i64 hv (2 ^ i.toNat),bn⟩,false,0):=by (have hxx : (nx == e) = true:=by simpa [bne] using hx);simp only [ackF,hg,hs,hxx,Bool.and_self,if_true,hb,hd,hq,Bool.false_eq_true,if_false]
  rw [e]
  dsimp only
  clear e
  go_enter Tryz.func146,Tryz.ntmps146
  go_wp2_with (first | (go_at_call 33;refine (good_any _ _ _ _ _ _ _).mono ?_;rintro e w2 ⟨rfl,hb2⟩;have hz_w2 : w.heap.size + 2 <= w2.heap.size:=(by have h_:=hb2.size;first | omega | (simp at h_;omega));obtain ⟨hc1,hf1⟩:=bk hb2 (w.heap.size) (by first | omega | (simp;done) | (simp;omega));have hs1 : w.heap.size < w2.heap.size:=(by omega);obtain ⟨hc2,hf2⟩:=bk hb2 (w.heap.size + 1) (by first | omega | (simp;done) | (simp;omega));have hs2 : w.heap.size + 1 < w2.heap.size:=(by omega)) | (go_at_call 196;refine (slot_any _ _).mono ?_;rintro e w' ⟨rfl,rfl⟩))
  go_region
  all_goals go_wp2_with fail
  all_goals exact bodyPost_ret (v:=.tuple #[.agg #[.int .i64 ep,.bool true,.int .i64 nx,.int .i64 nd,.int .i64 (bits .or .i64 hv (2 ^ i.toNat)),.int .i64 bn],.bool false,.int .i64 0]) (by simp [results,Tryz.results146,go_sem,hc1,hc2]) rfl ⟨rfl,(by repeat (first | with_reducible exact Below.refl _ _ | (with_reducible refine Below.setCell ?_ (by first | omega | (simp;done) | (simp;omega)) _) | with_reducible refine bal ?_ _ | with_reducible refine Below.drew ?_ | with_reducible refine bdn ?_ _ | with_reducible refine via ?_ (by with_reducible assumption)))⟩
 ·have e : ackF ⟨ep,true,nx,nd,hv,bn⟩ i e = (⟨nx,false,0,0,0,0⟩,true,0):=by (have hxx : (nx == e) = true:=by simpa [bne] using hx);simp only [ackF,hg,hs,hxx,Bool.and_self,if_true,hb,hd,hq,Bool.false_eq_true,if_false]
  rw [e]
  dsimp only
  clear e
  go_enter Tryz.func146,Tryz.ntmps146
  go_wp2_with (first | (go_at_call 33;refine (good_any _ _ _ _ _ _ _).mono ?_;rintro e w2 ⟨rfl,hb2⟩;have hz_w2 : w.heap.size + 2 <= w2.heap.size:=(by have h_:=hb2.size;first | omega | (simp at h_;omega));obtain ⟨hc1,hf1⟩:=bk hb2 (w.heap.size) (by first | omega | (simp;done) | (simp;omega));have hs1 : w.heap.size < w2.heap.size:=(by omega);obtain ⟨hc2,hf2⟩:=bk hb2 (w.heap.size + 1) (by first | omega | (simp;done) | (simp;omega));have hs2 : w.heap.size + 1 < w2.heap.size:=(by omega)) | (go_at_call 196;refine (slot_any _ _).mono ?_;rintro e w' ⟨rfl,rfl⟩))
  go_region
  all_goals go_wp2_with fail
  all_goals exact bodyPost_ret (v:=.tuple #[.agg #[.int .i64 nx,.bool false,.int .i64 0,.int .i64 0,.int .i64 0,.int .i64 0],.bool true,.int .i64 0]) (by simp [results,Tryz.results146,go_sem,hc1,hc2]) rfl ⟨rfl,(by repeat (first | with_reducible exact Below.refl _ _ | (with_reducible refine Below.setCell ?_ (by first | omega | (simp;done) | (simp;omega)) _) | with_reducible refine bal ?_ _ | with_reducible refine Below.drew ?_ | with_reducible refine bdn ?_ _ | with_reducible refine via ?_ (by with_reducible assumption)))⟩
end Zx.Zr
namespace Zx.Zr
open Go Go.Proofs Go.RowKit
set_option maxHeartbeats 2000000 in
theorem late_any (ep : Int) (op : Bool) (nx nd hv bn : Int) (now : Int) (w : World) : Calls Tryz.prog 93 #[.agg #[.int .i64 ep,.bool op,.int .i64 nx,.int .i64 nd,.int .i64 hv,.int .i64 bn],.int .i64 now] w fun x w'=>x = .returned (.int .i64 (lateF ⟨ep,op,nx,nd,hv,bn⟩ now)) /\ Below w.heap.size w w':=by
 cases hg : goodS ⟨ep,op,nx,nd,hv,bn⟩
 ·have e : lateF ⟨ep,op,nx,nd,hv,bn⟩ now = 0:=by simp [lateF,hg]
  rw [e]
  clear e
  go_enter Tryz.func93,Tryz.ntmps93
  go_wp2_with (first | (go_at_call 33;refine (good_any _ _ _ _ _ _ _).mono ?_;rintro e w2 ⟨rfl,hb2⟩;have hz_w2 : w.heap.size + 1 <= w2.heap.size:=(by have h_:=hb2.size;first | omega | (simp at h_;omega));obtain ⟨hc1,hf1⟩:=bk hb2 (w.heap.size) (by first | omega | (simp;done) | (simp;omega));have hs1 : w.heap.size < w2.heap.size:=(by omega)))
  go_ret
  exact ⟨rfl,(by repeat (first | with_reducible exact Below.refl _ _ | (with_reducible refine Below.setCell ?_ (by first | omega | (simp;done) | (simp;omega)) _) | with_reducible refine bal ?_ _ | with_reducible refine Below.drew ?_ | with_reducible refine bdn ?_ _ | with_reducible refine via ?_ (by with_reducible assumption)))⟩
 cases op
 ·have e : lateF ⟨ep,false,nx,nd,hv,bn⟩ now = 0:=by simp [lateF]
  rw [e]
  clear e
  go_enter Tryz.func93,Tryz.ntmps93
  go_wp2_with (first | (go_at_call 33;refine (good_any _ _ _ _ _ _ _).mono ?_;rintro e w2 ⟨rfl,hb2⟩;have hz_w2 : w.heap.size + 1 <= w2.heap.size:=(by have h_:=hb2.size;first | omega | (simp at h_;omega));obtain ⟨hc1,hf1⟩:=bk hb2 (w.heap.size) (by first | omega | (simp;done) | (simp;omega));have hs1 : w.heap.size < w2.heap.size:=(by omega)))
  go_ret
  exact ⟨rfl,(by repeat (first | with_reducible exact Below.refl _ _ | (with_reducible refine Below.setCell ?_ (by first | omega | (simp;done) | (simp;omega)) _) | with_reducible refine bal ?_ _ | with_reducible refine Below.drew ?_ | with_reducible refine bdn ?_ _ | with_reducible refine via ?_ (by with_reducible assumption)))⟩
 by_cases h1 : now < bn
 ·have e : lateF ⟨ep,true,nx,nd,hv,bn⟩ now = 0:=by (have hl : longB bn now = false:=by (simp [longB];omega));simp [lateF,hl]
  rw [e]
  clear e
  go_enter Tryz.func93,Tryz.ntmps93
  go_wp2_with (first | (go_at_call 33;refine (good_any _ _ _ _ _ _ _).mono ?_;rintro e w2 ⟨rfl,hb2⟩;have hz_w2 : w.heap.size + 1 <= w2.heap.size:=(by have h_:=hb2.size;first | omega | (simp at h_;omega));obtain ⟨hc1,hf1⟩:=bk hb2 (w.heap.size) (by first | omega | (simp;done) | (simp;omega));have hs1 : w.heap.size < w2.heap.size:=(by omega)))
  go_ret
  exact ⟨rfl,(by repeat (first | with_reducible exact Below.refl _ _ | (with_reducible refine Below.setCell ?_ (by first | omega | (simp;done) | (simp;omega)) _) | with_reducible refine bal ?_ _ | with_reducible refine Below.drew ?_ | with_reducible refine bdn ?_ _ | with_reducible refine via ?_ (by with_reducible assumption)))⟩
 have h1' : bn <= now:=by omega
 by_cases h2 : IntKind.u64.wrap (IntKind.u64.wrap now - IntKind.u64.wrap bn) < 200
 ·have e : lateF ⟨ep,true,nx,nd,hv,bn⟩ now = 0:=by (have hl : longB bn now = false:=by (simp [longB];omega));simp [lateF,hl]
  rw [e]
  clear e
  go_enter Tryz.func93,Tryz.ntmps93
  go_wp2_with (first | (go_at_call 33;refine (good_any _ _ _ _ _ _ _).mono ?_;rintro e w2 ⟨rfl,hb2⟩;have hz_w2 : w.heap.size + 1 <= w2.heap.size:=(by have h_:=hb2.size;first | omega | (simp at h_;omega));obtain ⟨hc1,hf1⟩:=bk hb2 (w.heap.size) (by first | omega | (simp;done) | (simp;omega));have hs1 : w.heap.size < w2.heap.size:=(by omega)))
  go_ret
  exact ⟨rfl,(by repeat (first | with_reducible exact Below.refl _ _ | (with_reducible refine Below.setCell ?_ (by first | omega | (simp;done) | (simp;omega)) _) | with_reducible refine bal ?_ _ | with_reducible refine Below.drew ?_ | with_reducible refine bdn ?_ _ | with_reducible refine via ?_ (by with_reducible assumption)))⟩
 ·have h2' : 200 <= IntKind.u64.wrap (IntKind.u64.wrap now - IntKind.u64.wrap bn):=by omega
  have e : lateF ⟨ep,true,nx,nd,hv,bn⟩ now = bits .andNot .i64 nd hv:=by (have hl : longB bn now = true:=by (simp [longB];omega));simp [lateF,hl,hg]
  rw [e]
  clear e
  go_enter Tryz.func93,Tryz.ntmps93
  go_wp2_with (first | (go_at_call 33;refine (good_any _ _ _ _ _ _ _).mono ?_;rintro e w2 ⟨rfl,hb2⟩;have hz_w2 : w.heap.size + 1 <= w2.heap.size:=(by have h_:=hb2.size;first | omega | (simp at h_;omega));obtain ⟨hc1,hf1⟩:=bk hb2 (w.heap.size) (by first | omega | (simp;done) | (simp;omega));have hs1 : w.heap.size < w2.heap.size:=(by omega)))
  go_ret
  exact ⟨rfl,(by repeat (first | with_reducible exact Below.refl _ _ | (with_reducible refine Below.setCell ?_ (by first | omega | (simp;done) | (simp;omega)) _) | with_reducible refine bal ?_ _ | with_reducible refine Below.drew ?_ | with_reducible refine bdn ?_ _ | with_reducible refine via ?_ (by with_reducible assumption)))⟩
end Zx.Zr
namespace Zx.Zr
open Go Go.Proofs Go.RowKit
theorem ofInt_i64 (a : Nat) (ha : a < 9223372036854775808) : (BitVec.ofInt 64 (a : Int)).toNat = a:=by
 rw [BitVec.ofInt_natCast,BitVec.toNat_ofNat];exact Nat.mod_eq_of_lt (by omega)
theorem i64_and_nat (a b : Nat) (ha : a < 9223372036854775808) (hb : b < 9223372036854775808) : bits .and .i64 (a : Int) (b : Int) = ((a &&& b : Nat) : Int):=by
 have hx : a &&& b < 2 ^ 63:=Nat.and_lt_two_pow _ (by omega)
 show IntKind.i64.wrap ((BitVec.ofInt 64 (a : Int) &&& BitVec.ofInt 64 (b : Int)).toNat : Int) = _
 rw [BitVec.toNat_and,ofInt_i64 a ha,ofInt_i64 b hb,IntKind.wrap_i64]
 omega
theorem andNot_and (h n : Int) (h0 : -9223372036854775808 <= h) (h1 : h <= 9223372036854775807) (n0 : 1 <= n) (n1 : n <= 255) :
  (bits .andNot .i64 h n == 0) = (decide (0 <= h /\ h <= 255) && (bits .and .i64 h n == h)):=by
 obtain ⟨m,rfl⟩:=Int.eq_ofNat_of_zero_le (show 0 <= n by omega)
 have hm : (BitVec.ofInt 64 (m : Int)).toNat = m:=ofInt_i64 m (by omega)
 have ht : (BitVec.ofInt 64 h).toInt = h:=by
  rw [BitVec.toInt_ofInt]
  simp [Int.bmod]
  omega
 have hand : bits .andNot .i64 h (m : Int) = IntKind.i64.wrap ((BitVec.ofInt 64 h &&& ~~~ BitVec.ofInt 64 (m : Int)).toNat : Int):=rfl
 rw [Bool.eq_iff_iff]
 constructor
 ·intro e
  have e1 : bits .andNot .i64 h (m : Int) = 0:=by simpa using e
  have hlt:=(BitVec.ofInt 64 h &&& ~~~ BitVec.ofInt 64 (m : Int)).isLt
  have e2 : (BitVec.ofInt 64 h &&& ~~~ BitVec.ofInt 64 (m : Int)).toNat = 0:=by
   rw [hand,IntKind.wrap_i64] at e1
   omega
  have e3 : BitVec.ofInt 64 h &&& ~~~ BitVec.ofInt 64 (m : Int) = 0#64:=BitVec.eq_of_toNat_eq (by simpa using e2)
  have e4 : BitVec.ofInt 64 h = BitVec.ofInt 64 h &&& BitVec.ofInt 64 (m : Int):=by
   apply BitVec.eq_of_getLsbD_eq
   intro i hi
   have:=congrArg (fun x=>x.getLsbD i) e3
   simp [hi] at this ⊢
   exact this
  have e5 : (BitVec.ofInt 64 h).toNat <= m:=by
   rw [e4,BitVec.toNat_and,hm]
   exact Nat.and_le_right
  have e6 : h = ((BitVec.ofInt 64 h).toNat : Int):=by
   rw [BitVec.toInt_eq_toNat_cond] at ht
   split at ht <;> omega
  generalize hx : (BitVec.ofInt 64 h).toNat = x at e5 e6
  have e7 : x &&& m = x:=by
   have:=congrArg BitVec.toNat e4
   rw [BitVec.toNat_and,hm,hx] at this
   exact this.symm
  subst e6
  simp only [Bool.and_eq_true,decide_eq_true_eq,beq_iff_eq]
  refine ⟨by omega, ?_⟩
  rw [i64_and_nat x m (by omega) (by omega),e7]
 ·intro e
  simp only [Bool.and_eq_true,decide_eq_true_eq,beq_iff_eq] at e
  obtain ⟨⟨a,b⟩,c⟩:=e
  obtain ⟨x,rfl⟩:=Int.eq_ofNat_of_zero_le a
  rw [i64_and_nat x m (by omega) (by omega)] at c
  have c' : x &&& m = x:=by exact_mod_cast c
  have hx : (BitVec.ofInt 64 (x : Int)).toNat = x:=ofInt_i64 x (by omega)
  have e4 : BitVec.ofInt 64 (x : Int) = BitVec.ofInt 64 (x : Int) &&& BitVec.ofInt 64 (m : Int):=BitVec.eq_of_toNat_eq (by rw [BitVec.toNat_and,hx,hm,c'])
  have e3 : BitVec.ofInt 64 (x : Int) &&& ~~~ BitVec.ofInt 64 (m : Int) = 0#64:=by
   rw [e4]
   apply BitVec.eq_of_getLsbD_eq
   intro i hi
   simp [hi]
  rw [hand,e3]
  decide
theorem i64_or_nat (a b : Nat) (ha : a < 9223372036854775808) (hb : b < 9223372036854775808) : bits .or .i64 (a : Int) (b : Int) = ((a ||| b : Nat) : Int):=by
 have hx : a ||| b < 2 ^ 63:=Nat.or_lt_two_pow (by omega) (by omega)
 show IntKind.i64.wrap ((BitVec.ofInt 64 (a : Int) ||| BitVec.ofInt 64 (b : Int)).toNat : Int) = _
 rw [BitVec.toNat_or,ofInt_i64 a ha,ofInt_i64 b hb,IntKind.wrap_i64]
 omega
theorem two_pow_lt (k : Nat) (hk : k < 8) : 2 ^ k < 256:=by
 have : (2 : Nat) ^ k <= 2 ^ 7:=Nat.pow_le_pow_right (by omega) (by omega)
 omega
theorem bitZ_nat (x k : Nat) (hx : x < 9223372036854775808) : bitZ (x : Int) (k : Int) = !x.testBit k:=by
 unfold bitZ
 have e : ((x : Int) / 2 ^ (k : Int).toNat) = ((x / 2 ^ k : Nat) : Int):=by
  rw [Int.toNat_natCast]
  push_cast
  rfl
 have hd : x / 2 ^ k < 9223372036854775808:=Nat.lt_of_le_of_lt (Nat.div_le_self _ _) hx
 have h1:=i64_and_nat (x / 2 ^ k) 1 hd (by omega)
 rw [e]
 have h1' : bits .and .i64 ((x / 2 ^ k : Nat) : Int) 1 = ((x / 2 ^ k &&& 1 : Nat) : Int):=h1
 rw [h1',Nat.and_one_is_mod,Nat.testBit_eq_decide_div_mod_eq]
 rcases Nat.mod_two_eq_zero_or_one (x / 2 ^ k) with h | h <;> simp [h]
theorem bitO_nat (x k : Nat) (hx : x < 9223372036854775808) : bitO (x : Int) (k : Int) = x.testBit k:=by
 have h:=bitZ_nat x k hx
 unfold bitZ at h
 unfold bitO
 have e : ((x : Int) / 2 ^ (k : Int).toNat) = ((x / 2 ^ k : Nat) : Int):=by
  rw [Int.toNat_natCast]
  push_cast
  rfl
 have hd : x / 2 ^ k < 9223372036854775808:=Nat.lt_of_le_of_lt (Nat.div_le_self _ _) hx
 have h1:=i64_and_nat (x / 2 ^ k) 1 hd (by omega)
 have h1' : bits .and .i64 ((x / 2 ^ k : Nat) : Int) 1 = ((x / 2 ^ k &&& 1 : Nat) : Int):=h1
 rw [e,h1',Nat.and_one_is_mod,Nat.testBit_eq_decide_div_mod_eq]
 rcases Nat.mod_two_eq_zero_or_one (x / 2 ^ k) with h | h <;> simp [h]
theorem or_pow (x k : Nat) (hx : x < 256) (hk : k < 8) : bits .or .i64 (x : Int) (2 ^ (k : Int).toNat) = ((x ||| 2 ^ k : Nat) : Int) /\ x ||| 2 ^ k < 256:=by
 have hp:=two_pow_lt k hk
 have e : (2 : Int) ^ (k : Int).toNat = ((2 ^ k : Nat) : Int):=by
  rw [Int.toNat_natCast]
  push_cast
  rfl
 refine ⟨by rw [e,i64_or_nat x (2 ^ k) (by omega) (by omega)], ?_⟩
 exact Nat.or_lt_two_pow (n:=8) hx hp
theorem sub_or (h n k : Nat) (hs : h &&& n = h) (hb : n.testBit k = true) : (h ||| 2 ^ k) &&& n = h ||| 2 ^ k:=by
 apply Nat.eq_of_testBit_eq
 intro i
 have h1:=congrArg (fun x=>x.testBit i) hs
 simp only [Nat.testBit_and] at h1
 simp only [Nat.testBit_and,Nat.testBit_or,Nat.testBit_two_pow]
 by_cases hi : k = i
 ·subst hi
  simp [hb]
 ·simp [hi]
  simpa using h1
end Zx.Zr
namespace Zx.Zr
open Go Go.Proofs Go.RowKit
structure Step (s s' : St) (e : Int) : Prop where
 good : goodS s' = true
 ep : s.ep <= s'.ep
 com : comS s <= comS s'
 com1 : comS s' <= comS s + 1
 err : e ≠ 0 -> s' = s
theorem Step.refl {s : St} {e : Int} (h : goodS s = true) : Step s s e:=⟨h,Int.le_refl _,Int.le_refl _,by omega,fun _=>rfl⟩
theorem good_open_iff (s : St) (ho : s.op = true) : goodS s = true ↔ (0 <= s.ep /\ s.ep <= 65535) /\ (s.ep < s.nx /\ s.nx <= 65535 /\ 1 <= s.nd /\ s.nd <= 255) /\ bits .andNot .i64 s.hv s.nd = 0 /\ s.hv ≠ s.nd:=by
 simp [goodS,ho]
theorem good_shut_iff (s : St) (ho : s.op = false) : goodS s = true ↔ (0 <= s.ep /\ s.ep <= 65535) /\ s.nx = 0 /\ s.nd = 0 /\ s.hv = 0 /\ s.bn = 0:=by
 simp [goodS,ho]
 omega
theorem andNot_zero (n : Nat) : bits .andNot .i64 0 (n : Int) = 0:=by
 have h : bits .andNot .i64 (0 : Int) (n : Int) = IntKind.i64.wrap ((BitVec.ofInt 64 0 &&& ~~~ BitVec.ofInt 64 (n : Int)).toNat : Int):=rfl
 rw [h]
 have e : BitVec.ofInt 64 0 &&& ~~~ BitVec.ofInt 64 (n : Int) = 0#64:=by
  apply BitVec.eq_of_getLsbD_eq
  intro i hi
  simp
 rw [e]
 decide
theorem raise_step (s : St) (n now : Int) (hg : goodS s = true) : Step s (raiseF s n now).1 (raiseF s n now).2 /\ ((raiseF s n now).1.ep = s.ep \/ (raiseF s n now).1.ep = comS s + 1):=by
 have hc : 0 <= comS s /\ comS s <= 65535:=com_bd s hg
 have hes : s.ep <= comS s:=by
  unfold comS
  cases ho : s.op
  ·simp
  ·have:=(good_open_iff s ho).1 hg
   simp
   omega
 unfold raiseF
 rw [hg,Bool.true_and]
 cases hn : needB n
 ·exact ⟨Step.refl hg,.inl rfl⟩
 ·have hn' : 0 <= n /\ n <= 255:=by simpa [needB] using hn
  rw [if_pos rfl]
  split
  ·exact ⟨Step.refl hg,.inl rfl⟩
  ·rename_i h1
   split
   ·refine ⟨⟨?_, ?_, ?_, ?_, ?_⟩,.inr rfl⟩
    ·rw [good_shut_iff _ rfl]
     exact ⟨by dsimp only;omega,rfl,rfl,rfl,rfl⟩
    ·dsimp only;omega
    ·show comS s <= comS s + 1;omega
    ·show comS s + 1 <= comS s + 1;omega
    ·intro h;exact absurd rfl h
   ·rename_i h2
    obtain ⟨m,rfl⟩:=Int.eq_ofNat_of_zero_le hn'.1
    refine ⟨⟨?_, ?_, ?_, ?_, ?_⟩,.inl rfl⟩
    ·rw [good_open_iff _ rfl]
     refine ⟨?_, ?_, ?_, ?_⟩
     ·have:=hg
      unfold goodS at this
      simp at this
      exact ⟨by dsimp only;omega,by dsimp only;omega⟩
     ·dsimp only;omega
     ·exact andNot_zero m
     ·dsimp only;omega
    ·exact Int.le_refl _
    ·show comS s <= comS s + 1;omega
    ·show comS s + 1 <= comS s + 1;omega
    ·intro h;exact absurd rfl h
theorem open_nat (s : St) (ho : s.op = true) (hg : goodS s = true) (b0 : -9223372036854775808 <= s.hv) (b1 : s.hv <= 9223372036854775807) :
  ∃ n h : Nat,s.nd = n /\ s.hv = h /\ 1 <= n /\ n <= 255 /\ h <= 255 /\ h &&& n = h /\ h ≠ n:=by
 obtain ⟨_,⟨_,_,h3,h4⟩,h5,h6⟩:=(good_open_iff s ho).1 hg
 have e:=andNot_and s.hv s.nd b0 b1 h3 h4
 have e1 : (bits .andNot .i64 s.hv s.nd == 0) = true:=by simpa using h5
 rw [e1] at e
 have e2:=e.symm
 simp only [Bool.and_eq_true,decide_eq_true_eq,beq_iff_eq] at e2
 obtain ⟨⟨a,b⟩,c⟩:=e2
 obtain ⟨n,hn⟩:=Int.eq_ofNat_of_zero_le (show 0 <= s.nd by omega)
 obtain ⟨h,hh⟩:=Int.eq_ofNat_of_zero_le a
 rw [hn,hh,i64_and_nat h n (by omega) (by omega)] at c
 refine ⟨n,h,hn,hh,by omega,by omega,by omega,by exact_mod_cast c, ?_⟩
 intro hc
 exact h6 (by rw [hn,hh,hc])
theorem nat_open (ep nx bn : Int) (n h : Nat) (e0 : 0 <= ep) (e1 : ep <= 65535) (x0 : ep < nx) (x1 : nx <= 65535) (n0 : 1 <= n) (n1 : n <= 255) (hs : h &&& n = h) (hne : h ≠ n) : goodS ⟨ep,true,nx,n,h,bn⟩ = true:=by
 have hle : h <= n:=by rw [← hs];exact Nat.and_le_right
 have e:=andNot_and (h : Int) (n : Int) (by omega) (by omega) (by omega) (by omega)
 have e2 : bits .and .i64 (h : Int) (n : Int) = (h : Int):=by rw [i64_and_nat h n (by omega) (by omega),hs]
 simp only [goodS,if_true]
 rw [e,e2]
 simp
 omega
theorem sub_more (h n k : Nat) (hs : h &&& n = h) : h &&& (n ||| 2 ^ k) = h:=by
 apply Nat.eq_of_testBit_eq
 intro i
 have h1:=congrArg (fun x=>x.testBit i) hs
 simp only [Nat.testBit_and] at h1
 simp only [Nat.testBit_and,Nat.testBit_or]
 cases hb : h.testBit i
 ·simp
 ·rw [hb] at h1
  simp at h1
  simp [h1]
theorem join_step (s : St) (i : Int) (hg : goodS s = true) (b0 : -9223372036854775808 <= s.hv) (b1 : s.hv <= 9223372036854775807) : Step s (joinF s i).1 (joinF s i).2 /\ (joinF s i).1.ep = s.ep /\ (joinF s i).1.op = s.op /\ (joinF s i).1.hv = s.hv:=by
 unfold joinF
 rw [hg,Bool.true_and]
 cases hi : slB i
 ·exact ⟨Step.refl hg,rfl,rfl,rfl⟩
 rw [if_pos rfl]
 have hi' : 0 <= i /\ i < 8:=by simpa [slB] using hi
 cases ho : s.op
 ·exact ⟨Step.refl hg,rfl,ho,rfl⟩
 rw [if_pos rfl]
 cases hb : bitO s.nd i
 ·obtain ⟨n,h,hn,hh,n0,n1,h1,hs,hne⟩:=open_nat s ho hg b0 b1
  obtain ⟨k,rfl⟩:=Int.eq_ofNat_of_zero_le hi'.1
  have hk : k < 8:=by omega
  obtain ⟨⟨e0,e1⟩,⟨x0,x1,_,_⟩,_,_⟩:=(good_open_iff s ho).1 hg
  obtain ⟨o1,o2⟩:=or_pow n k (by omega) hk
  have ht : n.testBit k = false:=by rw [← bitO_nat n k (by omega),← hn,hb]
  rw [if_neg (by simp)]
  refine ⟨⟨?_,Int.le_refl _, ?_, ?_,fun h=>absurd rfl h⟩,rfl,rfl,rfl⟩
  ·rw [hn,hh,o1]
   refine nat_open s.ep s.nx s.bn (n ||| 2 ^ k) h e0 e1 x0 x1 ?_ (by omega) (sub_more h n k hs) ?_
   ·exact Nat.le_trans n0 Nat.left_le_or
   ·intro hc
    have h2:=congrArg (fun x=>x.testBit k) hs
    simp only [Nat.testBit_and,ht,Bool.and_false] at h2
    have h3:=congrArg (fun x=>x.testBit k) hc
    simp only [Nat.testBit_or,Nat.testBit_two_pow_self,Bool.or_true] at h3
    rw [h3] at h2
    cases h2
  ·show comS s <= comS _
   simp [comS,ho]
  ·show comS _ <= comS s + 1
   simp [comS,ho]
   omega
 ·exact ⟨Step.refl hg,rfl,ho,rfl⟩
end Zx.Zr
namespace Zx.Zr
open Go Go.Proofs Go.RowKit
theorem ack_step (s : St) (i e : Int) (hg : goodS s = true) (b0 : 0 <= s.hv) (b1 : s.hv <= 255) :
  Step s (ackF s i e).1 (ackF s i e).2.2 /\ ((ackF s i e).1.ep = s.ep \/ (ackF s i e).1.ep = comS s) /\ (ackF s i e).2.1 = (s.op && !(ackF s i e).1.op) /\ 0 <= (ackF s i e).1.hv /\ (ackF s i e).1.hv <= 255:=by
 have hself : (s.op && !s.op) = false:=by cases s.op <;> rfl
 unfold ackF
 rw [hg,Bool.true_and]
 cases hi : slB i
 ·exact ⟨Step.refl hg,.inl rfl,hself.symm,b0,b1⟩
 rw [if_pos rfl]
 have hi' : 0 <= i /\ i < 8:=by simpa [slB] using hi
 by_cases hc : (s.op && s.nx == e) = true
 case neg=>
  rw [if_neg hc]
  exact ⟨Step.refl hg,.inl rfl,hself.symm,b0,b1⟩
 rw [if_pos hc]
 have ho : s.op = true:=by
  cases h : s.op
  ·rw [h] at hc;simp at hc
  ·rfl
 cases hz : bitZ s.nd i
 case true=>exact ⟨Step.refl hg,.inl rfl,hself.symm,b0,b1⟩
 cases hb : bitO s.hv i
 case true=>exact ⟨Step.refl hg,.inl rfl,hself.symm,b0,b1⟩
 rw [if_neg (by simp),if_neg (by simp)]
 obtain ⟨n,h,hn,hh,n0,n1,h1,hs,hne⟩:=open_nat s ho hg (by omega) (by omega)
 obtain ⟨k,rfl⟩:=Int.eq_ofNat_of_zero_le hi'.1
 have hk : k < 8:=by omega
 obtain ⟨⟨e0,e1⟩,⟨x0,x1,_,_⟩,_,_⟩:=(good_open_iff s ho).1 hg
 obtain ⟨o1,o2⟩:=or_pow h k (by omega) hk
 have hcs : comS s = s.nx:=by simp [comS,ho]
 have ht : n.testBit k = true:=by
  have:=bitZ_nat n k (by omega)
  rw [← hn,hz] at this
  cases hx : n.testBit k
  ·rw [hx] at this;simp at this
  ·rfl
 rw [hn,hh,o1]
 have hsub:=sub_or h n k hs ht
 by_cases hq : h ||| 2 ^ k = n
 ·rw [if_pos (by rw [hq];simp)]
  refine ⟨⟨?_, ?_, ?_, ?_,fun h=>absurd rfl h⟩,.inr hcs.symm,by simp [ho],by dsimp only;omega,by dsimp only;omega⟩
  ·rw [good_shut_iff _ rfl]
   exact ⟨by dsimp only;omega,rfl,rfl,rfl,rfl⟩
  ·dsimp only;omega
  ·show comS s <= s.nx;omega
  ·show s.nx <= comS s + 1;omega
 ·rw [if_neg (by simp only [beq_iff_eq];omega)]
  refine ⟨⟨?_,Int.le_refl _, ?_, ?_,fun h=>absurd rfl h⟩,.inl rfl,by simp [ho],by dsimp only;omega,by dsimp only;omega⟩
  ·rw [ho]
   exact nat_open s.ep s.nx s.bn n (h ||| 2 ^ k) e0 e1 x0 x1 n0 n1 hsub hq
  ·show comS s <= comS _
   simp [comS,ho]
  ·show comS _ <= comS s + 1
   simp [comS,ho]
   omega
theorem raise_hv (s : St) (n now : Int) (b0 : 0 <= s.hv) (b1 : s.hv <= 255) : 0 <= (raiseF s n now).1.hv /\ (raiseF s n now).1.hv <= 255:=by
 unfold raiseF
 split
 ·split
  ·exact ⟨b0,b1⟩
  ·split
   ·exact ⟨by dsimp only;omega,by dsimp only;omega⟩
   ·exact ⟨by dsimp only;omega,by dsimp only;omega⟩
 ·exact ⟨b0,b1⟩
end Zx.Zr
namespace Zx.Zr
open Go
theorem mask8 : ∀ b0 b1 b2 b3 b4 b5 b6 b7 : Bool,0 <= maskGo 0 [b0,b1,b2,b3,b4,b5,b6,b7] 0 /\ maskGo 0 [b0,b1,b2,b3,b4,b5,b6,b7] 0 <= 255 /\ decide (maskGo 0 [b0,b1,b2,b3,b4,b5,b6,b7] 0 = 0) = [b0,b1,b2,b3,b4,b5,b6,b7].all fun b=>!b:=by decide +kernel
theorem mask_all (u : List Bool) (h : u.length = 8) : 0 <= maskGo 0 u 0 /\ maskGo 0 u 0 <= 255 /\ decide (maskGo 0 u 0 = 0) = u.all fun b=>!b:=by
 match u,h with
 | [b0,b1,b2,b3,b4,b5,b6,b7],_=>exact mask8 b0 b1 b2 b3 b4 b5 b6 b7
theorem and_z : ∀ n : Fin 256,bits .and .i64 ((n.val : Nat) : Int) 0 = 0:=by decide +kernel
theorem andn_z : ∀ n : Fin 256,bits .andNot .i64 ((n.val : Nat) : Int) 0 = ((n.val : Nat) : Int):=by decide +kernel
theorem need_mask (nd m : Int) (h0 : 1 <= nd) (h1 : nd <= 255) (m0 : 0 <= m) (m1 : m <= 255) : (bits .andNot .i64 nd m = 0) ↔ (bits .and .i64 nd m = nd):=by
 rcases (by omega : m = 0 \/ 1 <= m) with rfl | h
 ·obtain ⟨k,rfl⟩:=Int.eq_ofNat_of_zero_le (show 0 <= nd by omega)
  have a1:=and_z ⟨k,by omega⟩
  have a2:=andn_z ⟨k,by omega⟩
  simp only at a1 a2
  rw [a1,a2]
  omega
 ·have:=andNot_and nd m (by omega) (by omega) h m1
  rw [Bool.eq_iff_iff] at this
  simp at this
  rw [this]
  omega
end Zx.Zr
namespace Zx.Zr
open Go
theorem idx_free : ∀ (u : List Bool) (k : Int),0 <= k -> 0 <= idxGo false k u -> u.getD (idxGo false k u - k).toNat true = false
 | [],k,_,h=>by simp [idxGo] at h
 | b :: bs,k,h0,h=>by
  unfold idxGo at h ⊢
  split
  ·rename_i hb
   simp [hb.symm]
  ·rename_i hb
   rw [if_neg hb] at h
   have ih:=idx_free bs (k + 1) (by omega) h
   have hbd:=idxGo_bd false bs (k + 1) h (by omega)
   rw [show (idxGo false (k + 1) bs - k).toNat = (idxGo false (k + 1) bs - (k + 1)).toNat + 1 by omega]
   simpa using ih
theorem take_free (u : List Bool) (a : List Int) (x : Int) (h : (takeG u a x).2.2 = 0) : u.getD (takeG u a x).2.1.toNat true = false /\ goodGo u a 0 u a = true:=by
 unfold takeG at h ⊢
 split
 ·rename_i hc
  rw [if_pos hc] at h
  split
  ·rename_i h1;rw [if_pos h1] at h;simp at h
  ·rename_i h1
   rw [if_neg h1] at h
   split
   ·rename_i h2;rw [if_pos h2] at h;simp at h
   ·rename_i h2
    have:=idx_free u 0 (by omega) (by omega)
    simp at hc
    rw [Int.sub_zero] at this
    exact ⟨this,hc.1⟩
 ·rename_i hc;rw [if_neg hc] at h;simp at h
theorem mask_bit8 : ∀ b0 b1 b2 b3 b4 b5 b6 b7 : Bool,∀ i : Fin 8,(maskGo 0 [b0,b1,b2,b3,b4,b5,b6,b7] 0).toNat.testBit i.val = [b0,b1,b2,b3,b4,b5,b6,b7].getD i.val false:=by decide +kernel
theorem mask_bit' (u : List Bool) (h : u.length = 8) (i : Nat) (hi : i < 8) : (maskGo 0 u 0).toNat.testBit i = u.getD i false:=by
 match u,h with
 | [b0,b1,b2,b3,b4,b5,b6,b7],_=>exact mask_bit8 b0 b1 b2 b3 b4 b5 b6 b7 ⟨i,hi⟩
theorem join_free (r : RV) (a : Int) (h8 : r.u.length = 8) (hg : goodRm r = true) (ht : (takeG r.u r.a a).2.2 = 0) : (joinF r.k (takeG r.u r.a a).2.1).2 = 0:=by
 obtain ⟨s0,s1⟩:=take_slot r.u r.a a h8 ht
 obtain ⟨hf,hgg⟩:=take_free r.u r.a a ht
 generalize (takeG r.u r.a a).2.1 = i at s0 s1 hf
 have hgs : goodS r.k = true:=by
  unfold goodRm at hg;simp at hg;exact hg.1.1.2
 have hend : endRm r = true:=by
  unfold goodRm at hg;simp at hg;exact hg.2
 unfold joinF
 have hsl : slB i = true:=by simp [slB];omega
 rw [if_pos (by rw [hgs,hsl];rfl)]
 split
 ·rename_i hop
  have hm : maskG r.u r.a = maskGo 0 r.u 0:=by unfold maskG;rw [if_pos hgg]
  obtain ⟨m0,m1,_⟩:=mask_all r.u h8
  have hnd : 1 <= r.k.nd /\ r.k.nd <= 255:=by simp [goodS,hop] at hgs;omega
  have h1 : bits .andNot .i64 r.k.nd (maskGo 0 r.u 0) = 0:=by
   unfold endRm at hend
   rw [hop,hm] at hend
   simp at hend
   exact hend.1
  have h2:=(need_mask _ _ hnd.1 hnd.2 m0 m1).1 h1
  obtain ⟨nd,hn⟩:=Int.eq_ofNat_of_zero_le (show 0 <= r.k.nd by omega)
  obtain ⟨m,hmm⟩:=Int.eq_ofNat_of_zero_le m0
  obtain ⟨j,rfl⟩:=Int.eq_ofNat_of_zero_le s0
  have h3:=mask_bit' r.u h8 j (by omega)
  rw [hmm] at h3 h2
  rw [hn] at h2 ⊢
  rw [i64_and_nat nd m (by omega) (by omega)] at h2
  have h4 : nd &&& m = nd:=by exact_mod_cast h2
  have hb : nd.testBit j = false:=by
   rw [← h4,Nat.testBit_and]
   have : m.testBit j = false:=by
    have h5 : m.testBit j = r.u.getD j false:=by simpa using h3
    rw [h5]
    have h6 : r.u.getD j true = false:=by simpa using hf
    have hlt : j < r.u.length:=by omega
    simp [List.getD_eq_getElem?_getD,hlt] at h6 ⊢
    exact h6
   rw [this,Bool.and_false]
  have hbo : bitO (nd : Int) (j : Int) = false:=by rw [bitO_nat nd j (by omega),hb]
  rw [if_neg (by rw [hbo];simp)]
 ·rfl
end Zx.Zr
