/- A part of the proof: lemmas. No condition of its own. -/
import Derived.WalkSpells
import Derived.WalkLawsBesides
import Derived.Outline
import Derived.Deep.RegionHeld3
import Derived.Deep.QuietTactic
import Derived.BigQuiet
import Derived.RegionTactic
import Derived.Lib.Hide
import Derived.Test.YtglcgbhhkjebbaaGreatK07
import Derived.Test.YtglcgbhhkjebbaaGreatK17
import Derived.Test.YtglcgbhhkjebbaaGreatK18
set_option linter.unusedVariables false
set_option linter.unusedSimpArgs false
namespace Zx.Zr
open Go Go.Proofs Go.RowKit
theorem bk {W w1 : World} (hb : Below W.heap.size W w1) (b : Nat) (h : b < W.heap.size) : (∀ o,w1.cell? ⟨b,o,none⟩ = W.cell? ⟨b,o,none⟩) /\ (∀ o,w1.frozen? ⟨b,o,none⟩ = W.frozen? ⟨b,o,none⟩):=
 ⟨fun o=>hb.cell (p:=⟨b,o,none⟩) h,fun o=>hb.frozen (p:=⟨b,o,none⟩) h⟩
theorem via {w W w1 : World} (h : Below w.heap.size w W) (hb : Below W.heap.size W w1) : Below w.heap.size w w1:=h.trans (hb.mono h.size)
theorem bal {w W : World} (h : Below w.heap.size w W) (o : Obj) : Below w.heap.size w (W.alloc o):=h.alloc h.size o
theorem slot_any (i : Int) (w : World) : Calls Tryz.prog 196 #[.int .i64 i] w fun x w'=>x = .returned (.bool (slB i)) /\ w = w':=by
 by_cases c1 : 0 <= i
 ·have e : slB i = decide (i < 8):=by simp [slB,c1]
  rw [e]
  clear e
  go_enter Tryz.func196,Tryz.ntmps196
  go_wp2
  go_ret
  exact ⟨rfl,rfl⟩
 ·have e : slB i = false:=by simp [slB];omega
  rw [e]
  clear e
  go_enter Tryz.func196,Tryz.ntmps196
  go_wp2
  go_ret
  exact ⟨rfl,rfl⟩
theorem coming_any (ep : Int) (op : Bool) (nx nd hv bn : Int) (w : World) : Calls Tryz.prog 16 #[.agg #[.int .i64 ep,.bool op,.int .i64 nx,.int .i64 nd,.int .i64 hv,.int .i64 bn]] w fun x w'=>x = .returned (.int .i64 (comS ⟨ep,op,nx,nd,hv,bn⟩)) /\ Below w.heap.size w w':=by
 cases op
 ·go_enter Tryz.func16,Tryz.ntmps16
  go_wp2
  go_ret
  exact ⟨rfl,(by repeat (first | with_reducible exact Below.refl _ _ | (with_reducible refine Below.setCell ?_ (by first | omega | (simp;done) | (simp;omega)) _) | with_reducible refine bal ?_ _ | with_reducible refine Below.drew ?_ | with_reducible refine bdn ?_ _ | with_reducible refine via ?_ (by with_reducible assumption)))⟩
 ·go_enter Tryz.func16,Tryz.ntmps16
  go_wp2
  go_ret
  exact ⟨rfl,(by repeat (first | with_reducible exact Below.refl _ _ | (with_reducible refine Below.setCell ?_ (by first | omega | (simp;done) | (simp;omega)) _) | with_reducible refine bal ?_ _ | with_reducible refine Below.drew ?_ | with_reducible refine bdn ?_ _ | with_reducible refine via ?_ (by with_reducible assumption)))⟩
set_option maxHeartbeats 1000000 in
theorem good_any (ep : Int) (op : Bool) (nx nd hv bn : Int) (w : World) : Calls Tryz.prog 33 #[.agg #[.int .i64 ep,.bool op,.int .i64 nx,.int .i64 nd,.int .i64 hv,.int .i64 bn]] w fun x w'=>x = .returned (.bool (goodS ⟨ep,op,nx,nd,hv,bn⟩)) /\ Below w.heap.size w w':=by
 cases op
 ·go_enter Tryz.func33,Tryz.ntmps33
  go_wp2
  all_goals go_ret
  all_goals refine ⟨?_,(by repeat (first | with_reducible exact Below.refl _ _ | (with_reducible refine Below.setCell ?_ (by first | omega | (simp;done) | (simp;omega)) _) | with_reducible refine bal ?_ _ | with_reducible refine Below.drew ?_ | with_reducible refine bdn ?_ _ | with_reducible refine via ?_ (by with_reducible assumption)))⟩
  all_goals simp [goodS, *]
  all_goals omega
 ·go_enter Tryz.func33,Tryz.ntmps33
  go_wp2
  all_goals go_ret
  all_goals refine ⟨?_,(by repeat (first | with_reducible exact Below.refl _ _ | (with_reducible refine Below.setCell ?_ (by first | omega | (simp;done) | (simp;omega)) _) | with_reducible refine bal ?_ _ | with_reducible refine Below.drew ?_ | with_reducible refine bdn ?_ _ | with_reducible refine via ?_ (by with_reducible assumption)))⟩
  all_goals simp [goodS, *]
  all_goals omega
end Zx.Zr
namespace Zx.Zr
open Go Go.Proofs Go.RowKit
theorem com_bd (s : St) (h : goodS s = true) : 0 <= comS s /\ comS s <= 65535:=by
 unfold goodS at h
 unfold comS
 cases ho : s.op
 ·simp [ho] at h
  simp
  omega
 ·simp [ho] at h
  simp
  omega
set_option maxHeartbeats 2000000 in
theorem raise_any (ep : Int) (op : Bool) (nx nd hv bn : Int) (need now : Int) (w : World) : Calls Tryz.prog 147 #[.agg #[.int .i64 ep,.bool op,.int .i64 nx,.int .i64 nd,.int .i64 hv,.int .i64 bn],.int .i64 need,.int .i64 now] w fun x w'=>x = .returned (.tuple #[.agg #[.int .i64 ((raiseF ⟨ep,op,nx,nd,hv,bn⟩ need now).1).ep,.bool ((raiseF ⟨ep,op,nx,nd,hv,bn⟩ need now).1).op,.int .i64 ((raiseF ⟨ep,op,nx,nd,hv,bn⟩ need now).1).nx,.int .i64 ((raiseF ⟨ep,op,nx,nd,hv,bn⟩ need now).1).nd,.int .i64 ((raiseF ⟨ep,op,nx,nd,hv,bn⟩ need now).1).hv,.int .i64 ((raiseF ⟨ep,op,nx,nd,hv,bn⟩ need now).1).bn],.int .i64 (raiseF ⟨ep,op,nx,nd,hv,bn⟩ need now).2]) /\ Below w.heap.size w w':=by
 cases hg : goodS ⟨ep,op,nx,nd,hv,bn⟩
 ·have e : raiseF ⟨ep,op,nx,nd,hv,bn⟩ need now = (⟨ep,op,nx,nd,hv,bn⟩,1):=by simp [raiseF,hg]
  rw [e]
  dsimp only
  clear e
  go_enter Tryz.func147,Tryz.ntmps147
  go_wp2_with (first | (go_at_call 16;refine (coming_any _ _ _ _ _ _ _).mono ?_;rintro e w1 ⟨rfl,hb1⟩;have hz_w1 : w.heap.size + 2 <= w1.heap.size:=(by have h_:=hb1.size;first | omega | (simp at h_;omega));obtain ⟨hc1,hf1⟩:=bk hb1 (w.heap.size) (by first | omega | (simp;done) | (simp;omega));have hs1 : w.heap.size < w1.heap.size:=(by omega);obtain ⟨hc2,hf2⟩:=bk hb1 (w.heap.size + 1) (by first | omega | (simp;done) | (simp;omega));have hs2 : w.heap.size + 1 < w1.heap.size:=(by omega)) | (go_at_call 33;refine (good_any _ _ _ _ _ _ _).mono ?_;rintro e w2 ⟨rfl,hb2⟩;have hz_w2 : w.heap.size + 2 <= w2.heap.size:=(by have h_:=hb2.size;first | omega | (simp at h_;omega));obtain ⟨hc3,hf3⟩:=bk hb2 (w.heap.size) (by first | omega | (simp;done) | (simp;omega));have hs3 : w.heap.size < w2.heap.size:=(by omega);obtain ⟨hc4,hf4⟩:=bk hb2 (w.heap.size + 1) (by first | omega | (simp;done) | (simp;omega));have hs4 : w.heap.size + 1 < w2.heap.size:=(by omega)))
  exact bodyPost_ret (v:=.tuple #[.agg #[.int .i64 ep,.bool op,.int .i64 nx,.int .i64 nd,.int .i64 hv,.int .i64 bn],.int .i64 1]) (by simp [results,Tryz.results147,go_sem,hc1,hc2,hc3,hc4]) rfl ⟨rfl,(by repeat (first | with_reducible exact Below.refl _ _ | (with_reducible refine Below.setCell ?_ (by first | omega | (simp;done) | (simp;omega)) _) | with_reducible refine bal ?_ _ | with_reducible refine Below.drew ?_ | with_reducible refine bdn ?_ _ | with_reducible refine via ?_ (by with_reducible assumption)))⟩
 have hcb:=com_bd ⟨ep,op,nx,nd,hv,bn⟩ hg
 by_cases h1 : need < 0
 ·have e : raiseF ⟨ep,op,nx,nd,hv,bn⟩ need now = (⟨ep,op,nx,nd,hv,bn⟩,1):=by (have hn : needB need = false:=by (simp [needB];omega));simp [raiseF,hn]
  rw [e]
  dsimp only
  clear e
  go_enter Tryz.func147,Tryz.ntmps147
  go_wp2_with (first | (go_at_call 16;refine (coming_any _ _ _ _ _ _ _).mono ?_;rintro e w1 ⟨rfl,hb1⟩;have hz_w1 : w.heap.size + 2 <= w1.heap.size:=(by have h_:=hb1.size;first | omega | (simp at h_;omega));obtain ⟨hc1,hf1⟩:=bk hb1 (w.heap.size) (by first | omega | (simp;done) | (simp;omega));have hs1 : w.heap.size < w1.heap.size:=(by omega);obtain ⟨hc2,hf2⟩:=bk hb1 (w.heap.size + 1) (by first | omega | (simp;done) | (simp;omega));have hs2 : w.heap.size + 1 < w1.heap.size:=(by omega)) | (go_at_call 33;refine (good_any _ _ _ _ _ _ _).mono ?_;rintro e w2 ⟨rfl,hb2⟩;have hz_w2 : w.heap.size + 2 <= w2.heap.size:=(by have h_:=hb2.size;first | omega | (simp at h_;omega));obtain ⟨hc3,hf3⟩:=bk hb2 (w.heap.size) (by first | omega | (simp;done) | (simp;omega));have hs3 : w.heap.size < w2.heap.size:=(by omega);obtain ⟨hc4,hf4⟩:=bk hb2 (w.heap.size + 1) (by first | omega | (simp;done) | (simp;omega));have hs4 : w.heap.size + 1 < w2.heap.size:=(by omega)))
  exact bodyPost_ret (v:=.tuple #[.agg #[.int .i64 ep,.bool op,.int .i64 nx,.int .i64 nd,.int .i64 hv,.int .i64 bn],.int .i64 1]) (by simp [results,Tryz.results147,go_sem,hc1,hc2,hc3,hc4]) rfl ⟨rfl,(by repeat (first | with_reducible exact Below.refl _ _ | (with_reducible refine Below.setCell ?_ (by first | omega | (simp;done) | (simp;omega)) _) | with_reducible refine bal ?_ _ | with_reducible refine Below.drew ?_ | with_reducible refine bdn ?_ _ | with_reducible refine via ?_ (by with_reducible assumption)))⟩
 by_cases h2 : 255 < need
 ·have e : raiseF ⟨ep,op,nx,nd,hv,bn⟩ need now = (⟨ep,op,nx,nd,hv,bn⟩,1):=by (have hn : needB need = false:=by (simp [needB];omega));simp [raiseF,hn]
  rw [e]
  dsimp only
  clear e
  go_enter Tryz.func147,Tryz.ntmps147
  go_wp2_with (first | (go_at_call 16;refine (coming_any _ _ _ _ _ _ _).mono ?_;rintro e w1 ⟨rfl,hb1⟩;have hz_w1 : w.heap.size + 2 <= w1.heap.size:=(by have h_:=hb1.size;first | omega | (simp at h_;omega));obtain ⟨hc1,hf1⟩:=bk hb1 (w.heap.size) (by first | omega | (simp;done) | (simp;omega));have hs1 : w.heap.size < w1.heap.size:=(by omega);obtain ⟨hc2,hf2⟩:=bk hb1 (w.heap.size + 1) (by first | omega | (simp;done) | (simp;omega));have hs2 : w.heap.size + 1 < w1.heap.size:=(by omega)) | (go_at_call 33;refine (good_any _ _ _ _ _ _ _).mono ?_;rintro e w2 ⟨rfl,hb2⟩;have hz_w2 : w.heap.size + 2 <= w2.heap.size:=(by have h_:=hb2.size;first | omega | (simp at h_;omega));obtain ⟨hc3,hf3⟩:=bk hb2 (w.heap.size) (by first | omega | (simp;done) | (simp;omega));have hs3 : w.heap.size < w2.heap.size:=(by omega);obtain ⟨hc4,hf4⟩:=bk hb2 (w.heap.size + 1) (by first | omega | (simp;done) | (simp;omega));have hs4 : w.heap.size + 1 < w2.heap.size:=(by omega)))
  exact bodyPost_ret (v:=.tuple #[.agg #[.int .i64 ep,.bool op,.int .i64 nx,.int .i64 nd,.int .i64 hv,.int .i64 bn],.int .i64 1]) (by simp [results,Tryz.results147,go_sem,hc1,hc2,hc3,hc4]) rfl ⟨rfl,(by repeat (first | with_reducible exact Below.refl _ _ | (with_reducible refine Below.setCell ?_ (by first | omega | (simp;done) | (simp;omega)) _) | with_reducible refine bal ?_ _ | with_reducible refine Below.drew ?_ | with_reducible refine bdn ?_ _ | with_reducible refine via ?_ (by with_reducible assumption)))⟩
 by_cases hc : 65535 < comS ⟨ep,op,nx,nd,hv,bn⟩ + 1
 ·have e : raiseF ⟨ep,op,nx,nd,hv,bn⟩ need now = (⟨ep,op,nx,nd,hv,bn⟩,11):=by (have hn : needB need = true:=by (simp [needB];omega));simp only [raiseF,hg,hn,Bool.and_self,if_true];rw [if_pos hc]
  rw [e]
  dsimp only
  clear e
  go_enter Tryz.func147,Tryz.ntmps147
  go_wp2_with (first | (go_at_call 16;refine (coming_any _ _ _ _ _ _ _).mono ?_;rintro e w1 ⟨rfl,hb1⟩;have hz_w1 : w.heap.size + 2 <= w1.heap.size:=(by have h_:=hb1.size;first | omega | (simp at h_;omega));obtain ⟨hc1,hf1⟩:=bk hb1 (w.heap.size) (by first | omega | (simp;done) | (simp;omega));have hs1 : w.heap.size < w1.heap.size:=(by omega);obtain ⟨hc2,hf2⟩:=bk hb1 (w.heap.size + 1) (by first | omega | (simp;done) | (simp;omega));have hs2 : w.heap.size + 1 < w1.heap.size:=(by omega)) | (go_at_call 33;refine (good_any _ _ _ _ _ _ _).mono ?_;rintro e w2 ⟨rfl,hb2⟩;have hz_w2 : w.heap.size + 2 <= w2.heap.size:=(by have h_:=hb2.size;first | omega | (simp at h_;omega));obtain ⟨hc3,hf3⟩:=bk hb2 (w.heap.size) (by first | omega | (simp;done) | (simp;omega));have hs3 : w.heap.size < w2.heap.size:=(by omega);obtain ⟨hc4,hf4⟩:=bk hb2 (w.heap.size + 1) (by first | omega | (simp;done) | (simp;omega));have hs4 : w.heap.size + 1 < w2.heap.size:=(by omega)))
  exact bodyPost_ret (v:=.tuple #[.agg #[.int .i64 ep,.bool op,.int .i64 nx,.int .i64 nd,.int .i64 hv,.int .i64 bn],.int .i64 11]) (by simp [results,Tryz.results147,go_sem,hc1,hc2,hc3,hc4]) rfl ⟨rfl,(by repeat (first | with_reducible exact Below.refl _ _ | (with_reducible refine Below.setCell ?_ (by first | omega | (simp;done) | (simp;omega)) _) | with_reducible refine bal ?_ _ | with_reducible refine Below.drew ?_ | with_reducible refine bdn ?_ _ | with_reducible refine via ?_ (by with_reducible assumption)))⟩
 by_cases h3 : need = 0
 ·subst h3
  have e : raiseF ⟨ep,op,nx,nd,hv,bn⟩ 0 now = (⟨comS ⟨ep,op,nx,nd,hv,bn⟩ + 1,false,0,0,0,0⟩,0):=by (have hn : needB 0 = true:=by decide);simp only [raiseF,hg,hn,Bool.and_self,if_true];rw [if_neg hc]
  rw [e]
  dsimp only
  clear e
  go_enter Tryz.func147,Tryz.ntmps147
  go_wp2_with (first | (go_at_call 16;refine (coming_any _ _ _ _ _ _ _).mono ?_;rintro e w1 ⟨rfl,hb1⟩;have hz_w1 : w.heap.size + 2 <= w1.heap.size:=(by have h_:=hb1.size;first | omega | (simp at h_;omega));obtain ⟨hc1,hf1⟩:=bk hb1 (w.heap.size) (by first | omega | (simp;done) | (simp;omega));have hs1 : w.heap.size < w1.heap.size:=(by omega);obtain ⟨hc2,hf2⟩:=bk hb1 (w.heap.size + 1) (by first | omega | (simp;done) | (simp;omega));have hs2 : w.heap.size + 1 < w1.heap.size:=(by omega)) | (go_at_call 33;refine (good_any _ _ _ _ _ _ _).mono ?_;rintro e w2 ⟨rfl,hb2⟩;have hz_w2 : w.heap.size + 2 <= w2.heap.size:=(by have h_:=hb2.size;first | omega | (simp at h_;omega));obtain ⟨hc3,hf3⟩:=bk hb2 (w.heap.size) (by first | omega | (simp;done) | (simp;omega));have hs3 : w.heap.size < w2.heap.size:=(by omega);obtain ⟨hc4,hf4⟩:=bk hb2 (w.heap.size + 1) (by first | omega | (simp;done) | (simp;omega));have hs4 : w.heap.size + 1 < w2.heap.size:=(by omega)))
  exact bodyPost_ret (v:=.tuple #[.agg #[.int .i64 (comS ⟨ep,op,nx,nd,hv,bn⟩ + 1),.bool false,.int .i64 0,.int .i64 0,.int .i64 0,.int .i64 0],.int .i64 0]) (by simp [results,Tryz.results147,go_sem,hc1,hc2,hc3,hc4]) rfl ⟨rfl,(by repeat (first | with_reducible exact Below.refl _ _ | (with_reducible refine Below.setCell ?_ (by first | omega | (simp;done) | (simp;omega)) _) | with_reducible refine bal ?_ _ | with_reducible refine Below.drew ?_ | with_reducible refine bdn ?_ _ | with_reducible refine via ?_ (by with_reducible assumption)))⟩
 ·have e : raiseF ⟨ep,op,nx,nd,hv,bn⟩ need now = (⟨ep,true,comS ⟨ep,op,nx,nd,hv,bn⟩ + 1,need,0,now⟩,0):=by (have hn : needB need = true:=by (simp [needB];omega));simp only [raiseF,hg,hn,Bool.and_self,if_true];rw [if_neg hc,if_neg h3]
  rw [e]
  dsimp only
  clear e
  go_enter Tryz.func147,Tryz.ntmps147
  go_wp2_with (first | (go_at_call 16;refine (coming_any _ _ _ _ _ _ _).mono ?_;rintro e w1 ⟨rfl,hb1⟩;have hz_w1 : w.heap.size + 2 <= w1.heap.size:=(by have h_:=hb1.size;first | omega | (simp at h_;omega));obtain ⟨hc1,hf1⟩:=bk hb1 (w.heap.size) (by first | omega | (simp;done) | (simp;omega));have hs1 : w.heap.size < w1.heap.size:=(by omega);obtain ⟨hc2,hf2⟩:=bk hb1 (w.heap.size + 1) (by first | omega | (simp;done) | (simp;omega));have hs2 : w.heap.size + 1 < w1.heap.size:=(by omega)) | (go_at_call 33;refine (good_any _ _ _ _ _ _ _).mono ?_;rintro e w2 ⟨rfl,hb2⟩;have hz_w2 : w.heap.size + 2 <= w2.heap.size:=(by have h_:=hb2.size;first | omega | (simp at h_;omega));obtain ⟨hc3,hf3⟩:=bk hb2 (w.heap.size) (by first | omega | (simp;done) | (simp;omega));have hs3 : w.heap.size < w2.heap.size:=(by omega);obtain ⟨hc4,hf4⟩:=bk hb2 (w.heap.size + 1) (by first | omega | (simp;done) | (simp;omega));have hs4 : w.heap.size + 1 < w2.heap.size:=(by omega)))
  exact bodyPost_ret (v:=.tuple #[.agg #[.int .i64 ep,.bool true,.int .i64 (comS ⟨ep,op,nx,nd,hv,bn⟩ + 1),.int .i64 need,.int .i64 0,.int .i64 now],.int .i64 0]) (by simp [results,Tryz.results147,go_sem,hc1,hc2,hc3,hc4]) rfl ⟨rfl,(by repeat (first | with_reducible exact Below.refl _ _ | (with_reducible refine Below.setCell ?_ (by first | omega | (simp;done) | (simp;omega)) _) | with_reducible refine bal ?_ _ | with_reducible refine Below.drew ?_ | with_reducible refine bdn ?_ _ | with_reducible refine via ?_ (by with_reducible assumption)))⟩
end Zx.Zr
namespace Zx.Zr
open Go Go.Proofs Go.RowKit
theorem pow_small (i : Int) (h0 : 0 <= i) (h1 : i < 8) : wrap64 (2 ^ i.toNat) = 2 ^ i.toNat:=by
 have h : i = 0 \/ i = 1 \/ i = 2 \/ i = 3 \/ i = 4 \/ i = 5 \/ i = 6 \/ i = 7:=by omega
 rcases h with rfl | rfl | rfl | rfl | rfl | rfl | rfl | rfl <;> first | rfl | (simp [wrap64];done) | decide +kernel
set_option maxHeartbeats 2000000 in
theorem join_any (ep : Int) (op : Bool) (nx nd hv bn : Int) (i : Int) (w : World) : Calls Tryz.prog 140 #[.agg #[.int .i64 ep,.bool op,.int .i64 nx,.int .i64 nd,.int .i64 hv,.int .i64 bn],.int .i64 i] w fun x w'=>x = .returned (.tuple #[.agg #[.int .i64 ((joinF ⟨ep,op,nx,nd,hv,bn⟩ i).1).ep,.bool ((joinF ⟨ep,op,nx,nd,hv,bn⟩ i).1).op,.int .i64 ((joinF ⟨ep,op,nx,nd,hv,bn⟩ i).1).nx,.int .i64 ((joinF ⟨ep,op,nx,nd,hv,bn⟩ i).1).nd,.int .i64 ((joinF ⟨ep,op,nx,nd,hv,bn⟩ i).1).hv,.int .i64 ((joinF ⟨ep,op,nx,nd,hv,bn⟩ i).1).bn],.int .i64 (joinF ⟨ep,op,nx,nd,hv,bn⟩ i).2]) /\ Below w.heap.size w w':=by
 cases hg : goodS ⟨ep,op,nx,nd,hv,bn⟩
 ·have e : joinF ⟨ep,op,nx,nd,hv,bn⟩ i = (⟨ep,op,nx,nd,hv,bn⟩,1):=by simp [joinF,hg]
  rw [e]
  dsimp only
  clear e
  go_enter Tryz.func140,Tryz.ntmps140
  go_wp2_with (first | (go_at_call 33;refine (good_any _ _ _ _ _ _ _).mono ?_;rintro e w2 ⟨rfl,hb2⟩;have hz_w2 : w.heap.size + 2 <= w2.heap.size:=(by have h_:=hb2.size;first | omega | (simp at h_;omega));obtain ⟨hc1,hf1⟩:=bk hb2 (w.heap.size) (by first | omega | (simp;done) | (simp;omega));have hs1 : w.heap.size < w2.heap.size:=(by omega);obtain ⟨hc2,hf2⟩:=bk hb2 (w.heap.size + 1) (by first | omega | (simp;done) | (simp;omega));have hs2 : w.heap.size + 1 < w2.heap.size:=(by omega)) | (go_at_call 196;refine (slot_any _ _).mono ?_;rintro e w' ⟨rfl,rfl⟩))
  exact bodyPost_ret (v:=.tuple #[.agg #[.int .i64 ep,.bool op,.int .i64 nx,.int .i64 nd,.int .i64 hv,.int .i64 bn],.int .i64 1]) (by simp [results,Tryz.results140,go_sem,hc1,hc2]) rfl ⟨rfl,(by repeat (first | with_reducible exact Below.refl _ _ | (with_reducible refine Below.setCell ?_ (by first | omega | (simp;done) | (simp;omega)) _) | with_reducible refine bal ?_ _ | with_reducible refine Below.drew ?_ | with_reducible refine bdn ?_ _ | with_reducible refine via ?_ (by with_reducible assumption)))⟩
 cases hs : slB i
 ·have e : joinF ⟨ep,op,nx,nd,hv,bn⟩ i = (⟨ep,op,nx,nd,hv,bn⟩,1):=by simp [joinF,hs]
  rw [e]
  dsimp only
  clear e
  go_enter Tryz.func140,Tryz.ntmps140
  go_wp2_with (first | (go_at_call 33;refine (good_any _ _ _ _ _ _ _).mono ?_;rintro e w2 ⟨rfl,hb2⟩;have hz_w2 : w.heap.size + 2 <= w2.heap.size:=(by have h_:=hb2.size;first | omega | (simp at h_;omega));obtain ⟨hc1,hf1⟩:=bk hb2 (w.heap.size) (by first | omega | (simp;done) | (simp;omega));have hs1 : w.heap.size < w2.heap.size:=(by omega);obtain ⟨hc2,hf2⟩:=bk hb2 (w.heap.size + 1) (by first | omega | (simp;done) | (simp;omega));have hs2 : w.heap.size + 1 < w2.heap.size:=(by omega)) | (go_at_call 196;refine (slot_any _ _).mono ?_;rintro e w' ⟨rfl,rfl⟩))
  exact bodyPost_ret (v:=.tuple #[.agg #[.int .i64 ep,.bool op,.int .i64 nx,.int .i64 nd,.int .i64 hv,.int .i64 bn],.int .i64 1]) (by simp [results,Tryz.results140,go_sem,hc1,hc2]) rfl ⟨rfl,(by repeat (first | with_reducible exact Below.refl _ _ | (with_reducible refine Below.setCell ?_ (by first | omega | (simp;done) | (simp;omega)) _) | with_reducible refine bal ?_ _ | with_reducible refine Below.drew ?_ | with_reducible refine bdn ?_ _ | with_reducible refine via ?_ (by with_reducible assumption)))⟩
 have hs' : 0 <= i /\ i < 8:=by simpa [slB] using hs
 obtain ⟨i0,i1⟩:=hs'
 have hp:=pow_small i i0 i1
 cases op
 ·have e : joinF ⟨ep,false,nx,nd,hv,bn⟩ i = (⟨ep,false,nx,nd,hv,bn⟩,0):=by simp [joinF,hg,hs]
  rw [e]
  dsimp only
  clear e
  go_enter Tryz.func140,Tryz.ntmps140
  go_wp2_with (first | (go_at_call 33;refine (good_any _ _ _ _ _ _ _).mono ?_;rintro e w2 ⟨rfl,hb2⟩;have hz_w2 : w.heap.size + 2 <= w2.heap.size:=(by have h_:=hb2.size;first | omega | (simp at h_;omega));obtain ⟨hc1,hf1⟩:=bk hb2 (w.heap.size) (by first | omega | (simp;done) | (simp;omega));have hs1 : w.heap.size < w2.heap.size:=(by omega);obtain ⟨hc2,hf2⟩:=bk hb2 (w.heap.size + 1) (by first | omega | (simp;done) | (simp;omega));have hs2 : w.heap.size + 1 < w2.heap.size:=(by omega)) | (go_at_call 196;refine (slot_any _ _).mono ?_;rintro e w' ⟨rfl,rfl⟩))
  exact bodyPost_ret (v:=.tuple #[.agg #[.int .i64 ep,.bool false,.int .i64 nx,.int .i64 nd,.int .i64 hv,.int .i64 bn],.int .i64 0]) (by simp [results,Tryz.results140,go_sem,hc1,hc2]) rfl ⟨rfl,(by repeat (first | with_reducible exact Below.refl _ _ | (with_reducible refine Below.setCell ?_ (by first | omega | (simp;done) | (simp;omega)) _) | with_reducible refine bal ?_ _ | with_reducible refine Below.drew ?_ | with_reducible refine bdn ?_ _ | with_reducible refine via ?_ (by with_reducible assumption)))⟩
 cases hb : bitO nd i
 ·have hb' : (bits .and .i64 (nd / 2 ^ i.toNat) 1 == 1) = false:=hb
  have e : joinF ⟨ep,true,nx,nd,hv,bn⟩ i = (⟨ep,true,nx,bits .or .i64 nd (2 ^ i.toNat),hv,bn⟩,0):=by simp [joinF,hg,hs,hb]
  rw [e]
  dsimp only
  clear e
  go_enter Tryz.func140,Tryz.ntmps140
  go_wp2_with (first | (go_at_call 33;refine (good_any _ _ _ _ _ _ _).mono ?_;rintro e w2 ⟨rfl,hb2⟩;have hz_w2 : w.heap.size + 2 <= w2.heap.size:=(by have h_:=hb2.size;first | omega | (simp at h_;omega));obtain ⟨hc1,hf1⟩:=bk hb2 (w.heap.size) (by first | omega | (simp;done) | (simp;omega));have hs1 : w.heap.size < w2.heap.size:=(by omega);obtain ⟨hc2,hf2⟩:=bk hb2 (w.heap.size + 1) (by first | omega | (simp;done) | (simp;omega));have hs2 : w.heap.size + 1 < w2.heap.size:=(by omega)) | (go_at_call 196;refine (slot_any _ _).mono ?_;rintro e w' ⟨rfl,rfl⟩))
  go_region
  all_goals go_wp2_with fail
  all_goals exact bodyPost_ret (v:=.tuple #[.agg #[.int .i64 ep,.bool true,.int .i64 nx,.int .i64 (bits .or .i64 nd (2 ^ i.toNat)),.int .i64 hv,.int .i64 bn],.int .i64 0]) (by simp [results,Tryz.results140,go_sem,hc1,hc2]) rfl ⟨rfl,(by repeat (first | with_reducible exact Below.refl _ _ | (with_reducible refine Below.setCell ?_ (by first | omega | (simp;done) | (simp;omega)) _) | with_reducible refine bal ?_ _ | with_reducible refine Below.drew ?_ | with_reducible refine bdn ?_ _ | with_reducible refine via ?_ (by with_reducible assumption)))⟩
 ·have hb' : (bits .and .i64 (nd / 2 ^ i.toNat) 1 == 1) = true:=hb
  have e : joinF ⟨ep,true,nx,nd,hv,bn⟩ i = (⟨ep,true,nx,nd,hv,bn⟩,7):=by simp [joinF,hg,hs,hb]
  rw [e]
  dsimp only
  clear e
  go_enter Tryz.func140,Tryz.ntmps140
  go_wp2_with (first | (go_at_call 33;refine (good_any _ _ _ _ _ _ _).mono ?_;rintro e w2 ⟨rfl,hb2⟩;have hz_w2 : w.heap.size + 2 <= w2.heap.size:=(by have h_:=hb2.size;first | omega | (simp at h_;omega));obtain ⟨hc1,hf1⟩:=bk hb2 (w.heap.size) (by first | omega | (simp;done) | (simp;omega));have hs1 : w.heap.size < w2.heap.size:=(by omega);obtain ⟨hc2,hf2⟩:=bk hb2 (w.heap.size + 1) (by first | omega | (simp;done) | (simp;omega));have hs2 : w.heap.size + 1 < w2.heap.size:=(by omega)) | (go_at_call 196;refine (slot_any _ _).mono ?_;rintro e w' ⟨rfl,rfl⟩))
  exact bodyPost_ret (v:=.tuple #[.agg #[.int .i64 ep,.bool true,.int .i64 nx,.int .i64 nd,.int .i64 hv,.int .i64 bn],.int .i64 7]) (by simp [results,Tryz.results140,go_sem,hc1,hc2]) rfl ⟨rfl,(by repeat (first | with_reducible exact Below.refl _ _ | (with_reducible refine Below.setCell ?_ (by first | omega | (simp;done) | (simp;omega)) _) | with_reducible refine bal ?_ _ | with_reducible refine Below.drew ?_ | with_reducible refine bdn ?_ _ | with_reducible refine via ?_ (by with_reducible assumption)))⟩
end Zx.Zr
namespace Zx.Zr
open Go Go.Proofs Go.RowKit
set_option maxHeartbeats 4000000 in
theorem ack_any (ep : Int) (op : Bool) (nx nd hv bn : Int) (i e : Int) (w : World) : Calls Tryz.prog 146 #[.agg #[.int .i64 ep,.bool op,.int .i64 nx,.int .i64 nd,.int .i64 hv,.int .i64 bn],.int .i64 i,.int .i64 e] w fun x w'=>x = .returned (.tuple #[.agg #[.int .i64 ((ackF ⟨ep,op,nx,nd,hv,bn⟩ i e).1).ep,.bool ((ackF ⟨ep,op,nx,nd,hv,bn⟩ i e).1).op,.int .i64 ((ackF ⟨ep,op,nx,nd,hv,bn⟩ i e).1).nx,.int .i64 ((ackF ⟨ep,op,nx,nd,hv,bn⟩ i e).1).nd,.int .i64 ((ackF ⟨ep,op,nx,nd,hv,bn⟩ i e).1).hv,.int .i64 ((ackF ⟨ep,op,nx,nd,hv,bn⟩ i e).1).bn],.bool (ackF ⟨ep,op,nx,nd,hv,bn⟩ i e).2.1,.int .i64 (ackF ⟨ep,op,nx,nd,hv,bn⟩ i e).2.2]) /\ Below w.heap.size w w':=by
 cases hg : goodS ⟨ep,op,nx,nd,hv,bn⟩
 ·have e : ackF ⟨ep,op,nx,nd,hv,bn⟩ i e = (⟨ep,op,nx,nd,hv,bn⟩,false,1):=by simp [ackF,hg]
  rw [e]
  dsimp only
  clear e
  go_enter Tryz.func146,Tryz.ntmps146
  go_wp2_with (first | (go_at_call 33;refine (good_any _ _ _ _ _ _ _).mono ?_;rintro e w2 ⟨rfl,hb2⟩;have hz_w2 : w.heap.size + 2 <= w2.heap.size:=(by have h_:=hb2.size;first | omega | (simp at h_;omega));obtain ⟨hc1,hf1⟩:=bk hb2 (w.heap.size) (by first | omega | (simp;done) | (simp;omega));have hs1 : w.heap.size < w2.heap.size:=(by omega);obtain ⟨hc2,hf2⟩:=bk hb2 (w.heap.size + 1) (by first | omega | (simp;done) | (simp;omega));have hs2 : w.heap.size + 1 < w2.heap.size:=(by omega)) | (go_at_call 196;refine (slot_any _ _).mono ?_;rintro e w' ⟨rfl,rfl⟩))
  exact bodyPost_ret (v:=.tuple #[.agg #[.int .i64 ep,.bool op,.int .i64 nx,.int .i64 nd,.int .i64 hv,.int .i64 bn],.bool false,.int .i64 1]) (by simp [results,Tryz.results146,go_sem,hc1,hc2]) rfl ⟨rfl,(by repeat (first | with_reducible exact Below.refl _ _ | (with_reducible refine Below.setCell ?_ (by first | omega | (simp;done) | (simp;omega)) _) | with_reducible refine bal ?_ _ | with_reducible refine Below.drew ?_ | with_reducible refine bdn ?_ _ | with_reducible refine via ?_ (by with_reducible assumption)))⟩
 cases hs : slB i
 ·have e : ackF ⟨ep,op,nx,nd,hv,bn⟩ i e = (⟨ep,op,nx,nd,hv,bn⟩,false,1):=by simp [ackF,hs]
  rw [e]
  dsimp only
  clear e
  go_enter Tryz.func146,Tryz.ntmps146
  go_wp2_with (first | (go_at_call 33;refine (good_any _ _ _ _ _ _ _).mono ?_;rintro e w2 ⟨rfl,hb2⟩;have hz_w2 : w.heap.size + 2 <= w2.heap.size:=(by have h_:=hb2.size;first | omega | (simp at h_;omega));obtain ⟨hc1,hf1⟩:=bk hb2 (w.heap.size) (by first | omega | (simp;done) | (simp;omega));have hs1 : w.heap.size < w2.heap.size:=(by omega);obtain ⟨hc2,hf2⟩:=bk hb2 (w.heap.size + 1) (by first | omega | (simp;done) | (simp;omega));have hs2 : w.heap.size + 1 < w2.heap.size:=(by omega)) | (go_at_call 196;refine (slot_any _ _).mono ?_;rintro e w' ⟨rfl,rfl⟩))
  exact bodyPost_ret (v:=.tuple #[.agg #[.int .i64 ep,.bool op,.int .i64 nx,.int .i64 nd,.int .i64 hv,.int .i64 bn],.bool false,.int .i64 1]) (by simp [results,Tryz.results146,go_sem,hc1,hc2]) rfl ⟨rfl,(by repeat (first | with_reducible exact Below.refl _ _ | (with_reducible refine Below.setCell ?_ (by first | omega | (simp;done) | (simp;omega)) _) | with_reducible refine bal ?_ _ | with_reducible refine Below.drew ?_ | with_reducible refine bdn ?_ _ | with_reducible refine via ?_ (by with_reducible assumption)))⟩
 have hs' : 0 <= i /\ i < 8:=by simpa [slB] using hs
 obtain ⟨i0,i1⟩:=hs'
 have hp:=pow_small i i0 i1
 cases op
 ·have e : ackF ⟨ep,false,nx,nd,hv,bn⟩ i e = (⟨ep,false,nx,nd,hv,bn⟩,false,12):=by simp [ackF,hg,hs]
  rw [e]
  dsimp only
  clear e
  go_enter Tryz.func146,Tryz.ntmps146
  go_wp2_with (first | (go_at_call 33;refine (good_any _ _ _ _ _ _ _).mono ?_;rintro e w2 ⟨rfl,hb2⟩;have hz_w2 : w.heap.size + 2 <= w2.heap.size:=(by have h_:=hb2.size;first | omega | (simp at h_;omega));obtain ⟨hc1,hf1⟩:=bk hb2 (w.heap.size) (by first | omega | (simp;done) | (simp;omega));have hs1 : w.heap.size < w2.heap.size:=(by omega);obtain ⟨hc2,hf2⟩:=bk hb2 (w.heap.size + 1) (by first | omega | (simp;done) | (simp;omega));have hs2 : w.heap.size + 1 < w2.heap.size:=(by omega)) | (go_at_call 196;refine (slot_any _ _).mono ?_;rintro e w' ⟨rfl,rfl⟩))
  exact bodyPost_ret (v:=.tuple #[.agg #[.int .i64 ep,.bool false,.int .i64 nx,.int .i64 nd,.int .i64 hv,.int .i64 bn],.bool false,.int .i64 12]) (by simp [results,Tryz.results146,go_sem,hc1,hc2]) rfl ⟨rfl,(by repeat (first | with_reducible exact Below.refl _ _ | (with_reducible refine Below.setCell ?_ (by first | omega | (simp;done) | (simp;omega)) _) | with_reducible refine bal ?_ _ | with_reducible refine Below.drew ?_ | with_reducible refine bdn ?_ _ | with_reducible refine via ?_ (by with_reducible assumption)))⟩
 cases hx : nx != e
 case true=>
  have e : ackF ⟨ep,true,nx,nd,hv,bn⟩ i e = (⟨ep,true,nx,nd,hv,bn⟩,false,12):=by (have hxx : (nx == e) = false:=by simpa [bne] using hx);simp only [ackF,hg,hs,hxx,Bool.and_self,Bool.and_false,if_true,Bool.false_eq_true,if_false]
  rw [e]
  dsimp only
  clear e
  go_enter Tryz.func146,Tryz.ntmps146
  go_wp2_with (first | (go_at_call 33;refine (good_any _ _ _ _ _ _ _).mono ?_;rintro e w2 ⟨rfl,hb2⟩;have hz_w2 : w.heap.size + 2 <= w2.heap.size:=(by have h_:=hb2.size;first | omega | (simp at h_;omega));obtain ⟨hc1,hf1⟩:=bk hb2 (w.heap.size) (by first | omega | (simp;done) | (simp;omega));have hs1 : w.heap.size < w2.heap.size:=(by omega);obtain ⟨hc2,hf2⟩:=bk hb2 (w.heap.size + 1) (by first | omega | (simp;done) | (simp;omega));have hs2 : w.heap.size + 1 < w2.heap.size:=(by omega)) | (go_at_call 196;refine (slot_any _ _).mono ?_;rintro e w' ⟨rfl,rfl⟩))
  exact bodyPost_ret (v:=.tuple #[.agg #[.int .i64 ep,.bool true,.int .i64 nx,.int .i64 nd,.int .i64 hv,.int .i64 bn],.bool false,.int .i64 12]) (by simp [results,Tryz.results146,go_sem,hc1,hc2]) rfl ⟨rfl,(by repeat (first | with_reducible exact Below.refl _ _ | (with_reducible refine Below.setCell ?_ (by first | omega | (simp;done) | (simp;omega)) _) | with_reducible refine bal ?_ _ | with_reducible refine Below.drew ?_ | with_reducible refine bdn ?_ _ | with_reducible refine via ?_ (by with_reducible assumption)))⟩
 cases hb : bitZ nd i
 case true=>
  have hb' : (bits .and .i64 (nd / 2 ^ i.toNat) 1 == 0) = true:=hb
  have e : ackF ⟨ep,true,nx,nd,hv,bn⟩ i e = (⟨ep,true,nx,nd,hv,bn⟩,false,6):=by (have hxx : (nx == e) = true:=by simpa [bne] using hx);simp only [ackF,hg,hs,hxx,Bool.and_self,if_true,hb]
  rw [e]
  dsimp only
  clear e
  go_enter Tryz.func146,Tryz.ntmps146
  go_wp2_with (first | (go_at_call 33;refine (good_any _ _ _ _ _ _ _).mono ?_;rintro e w2 ⟨rfl,hb2⟩;have hz_w2 : w.heap.size + 2 <= w2.heap.size:=(by have h_:=hb2.size;first | omega | (simp at h_;omega));obtain ⟨hc1,hf1⟩:=bk hb2 (w.heap.size) (by first | omega | (simp;done) | (simp;omega));have hs1 : w.heap.size < w2.heap.size:=(by omega);obtain ⟨hc2,hf2⟩:=bk hb2 (w.heap.size + 1) (by first | omega | (simp;done) | (simp;omega));have hs2 : w.heap.size + 1 < w2.heap.size:=(by omega)) | (go_at_call 196;refine (slot_any _ _).mono ?_;rintro e w' ⟨rfl,rfl⟩))
  exact bodyPost_ret (v:=.tuple #[.agg #[.int .i64 ep,.bool true,.int .i64 nx,.int .i64 nd,.int .i64 hv,.int .i64 bn],.bool false,.int .i64 6]) (by simp [results,Tryz.results146,go_sem,hc1,hc2]) rfl ⟨rfl,(by repeat (first | with_reducible exact Below.refl _ _ | (with_reducible refine Below.setCell ?_ (by first | omega | (simp;done) | (simp;omega)) _) | with_reducible refine bal ?_ _ | with_reducible refine Below.drew ?_ | with_reducible refine bdn ?_ _ | with_reducible refine via ?_ (by with_reducible assumption)))⟩
 have hb' : (bits .and .i64 (nd / 2 ^ i.toNat) 1 == 0) = false:=hb
 cases hd : bitO hv i
 case true=>
  have hd' : (bits .and .i64 (hv / 2 ^ i.toNat) 1 == 1) = true:=hd
  have e : ackF ⟨ep,true,nx,nd,hv,bn⟩ i e = (⟨ep,true,nx,nd,hv,bn⟩,false,7):=by (have hxx : (nx == e) = true:=by simpa [bne] using hx);simp only [ackF,hg,hs,hxx,Bool.and_self,if_true,hb,hd,Bool.false_eq_true,if_false]
  rw [e]
  dsimp only
  clear e
  go_enter Tryz.func146,Tryz.ntmps146
  go_wp2_with (first | (go_at_call 33;refine (good_any _ _ _ _ _ _ _).mono ?_;rintro e w2 ⟨rfl,hb2⟩;have hz_w2 : w.heap.size + 2 <= w2.heap.size:=(by have h_:=hb2.size;first | omega | (simp at h_;omega));obtain ⟨hc1,hf1⟩:=bk hb2 (w.heap.size) (by first | omega | (simp;done) | (simp;omega));have hs1 : w.heap.size < w2.heap.size:=(by omega);obtain ⟨hc2,hf2⟩:=bk hb2 (w.heap.size + 1) (by first | omega | (simp;done) | (simp;omega));have hs2 : w.heap.size + 1 < w2.heap.size:=(by omega)) | (go_at_call 196;refine (slot_any _ _).mono ?_;rintro e w' ⟨rfl,rfl⟩))
  exact bodyPost_ret (v:=.tuple #[.agg #[.int .i64 ep,.bool true,.int .i64 nx,.int .i64 nd,.int .i64 hv,.int .i64 bn],.bool false,.int .i64 7]) (by simp [results,Tryz.results146,go_sem,hc1,hc2]) rfl ⟨rfl,(by repeat (first | with_reducible exact Below.refl _ _ | (with_reducible refine Below.setCell ?_ (by first | omega | (simp;done) | (simp;omega)) _) | with_reducible refine bal ?_ _ | with_reducible refine Below.drew ?_ | with_reducible refine bdn ?_ _ | with_reducible refine via ?_ (by with_reducible assumption)))⟩
 have hd' : (bits .and .i64 (hv / 2 ^ i.toNat) 1 == 1) = false:=hd
 cases hq : bits .or .i64 hv (2 ^ i.toNat) == nd
 ·have e : ackF ⟨ep,true,nx,nd,hv,bn⟩ i e = (⟨ep,true,nx,nd,bits .or .i64 hv (2 ^ i.toNat),bn⟩,false,0):=by (have hxx : (nx == e) = true:=by simpa [bne] using hx);simp only [ackF,hg,hs,hxx,Bool.and_self,if_true,hb,hd,hq,Bool.false_eq_true,if_false]
  rw [e]
  dsimp only
  clear e
  go_enter Tryz.func146,Tryz.ntmps146
  go_wp2_with (first | (go_at_call 33;refine (good_any _ _ _ _ _ _ _).mono ?_;rintro e w2 ⟨rfl,hb2⟩;have hz_w2 : w.heap.size + 2 <= w2.heap.size:=(by have h_:=hb2.size;first | omega | (simp at h_;omega));obtain ⟨hc1,hf1⟩:=bk hb2 (w.heap.size) (by first | omega | (simp;done) | (simp;omega));have hs1 : w.heap.size < w2.heap.size:=(by omega);obtain ⟨hc2,hf2⟩:=bk hb2 (w.heap.size + 1) (by first | omega | (simp;done) | (simp;omega));have hs2 : w.heap.size + 1 < w2.heap.size:=(by omega)) | (go_at_call 196;refine (slot_any _ _).mono ?_;rintro e w' ⟨rfl,rfl⟩))
  go_region
  all_goals go_wp2_with fail
  all_goals exact bodyPost_ret (v:=.tuple #[.agg #[.int .i64 ep,.bool true,.int .i64 nx,.int .i64 nd,.int .i64 (bits .or .i64 hv (2 ^ i.toNat)),.int .i64 bn],.bool false,.int .i64 0]) (by simp [results,Tryz.results146,go_sem,hc1,hc2]) rfl ⟨rfl,(by repeat (first | with_reducible exact Below.refl _ _ | (with_reducible refine Below.setCell ?_ (by first | omega | (simp;done) | (simp;omega)) _) | with_reducible refine bal ?_ _ | with_reducible refine Below.drew ?_ | with_reducible refine bdn ?_ _ | with_reducible refine via ?_ (by with_reducible assumption)))⟩
 ·have e : ackF ⟨ep,true,nx,nd,hv,bn⟩ i e = (⟨nx,false,0,0,0,0⟩,true,0):=by (have hxx : (nx == e) = true:=by simpa [bne] using hx);simp only [ackF,hg,hs,hxx,Bool.and_self,if_true,hb,hd,hq,Bool.false_eq_true,if_false]
  rw [e]
  dsimp only
  clear e
  go_enter Tryz.func146,Tryz.ntmps146
  go_wp2_with (first | (go_at_call 33;refine (good_any _ _ _ _ _ _ _).mono ?_;rintro e w2 ⟨rfl,hb2⟩;have hz_w2 : w.heap.size + 2 <= w2.heap.size:=(by have h_:=hb2.size;first | omega | (simp at h_;omega));obtain ⟨hc1,hf1⟩:=bk hb2 (w.heap.size) (by first | omega | (simp;done) | (simp;omega));have hs1 : w.heap.size < w2.heap.size:=(by omega);obtain ⟨hc2,hf2⟩:=bk hb2 (w.heap.size + 1) (by first | omega | (simp;done) | (simp;omega));have hs2 : w.heap.size + 1 < w2.heap.size:=(by omega)) | (go_at_call 196;refine (slot_any _ _).mono ?_;rintro e w' ⟨rfl,rfl⟩))
  go_region
  all_goals go_wp2_with fail
  all_goals exact bodyPost_ret (v:=.tuple #[.agg #[.int .i64 nx,.bool false,.int .i64 0,.int .i64 0,.int .i64 0,.int .i64 0],.bool true,.int .i64 0]) (by simp [results,Tryz.results146,go_sem,hc1,hc2]) rfl ⟨rfl,(by repeat (first | with_reducible exact Below.refl _ _ | (with_reducible refine Below.setCell ?_ (by first | omega | (simp;done) | (simp;omega)) _) | with_reducible refine bal ?_ _ | with_reducible refine Below.drew ?_ | with_reducible refine bdn ?_ _ | with_reducible refine via ?_ (by with_reducible assumption)))⟩
end Zx.Zr
namespace Zx.Zr
open Go Go.Proofs Go.RowKit
set_option maxHeartbeats 2000000 in
theorem late_any (ep : Int) (op : Bool) (nx nd hv bn : Int) (now : Int) (w : World) : Calls Tryz.prog 93 #[.agg #[.int .i64 ep,.bool op,.int .i64 nx,.int .i64 nd,.int .i64 hv,.int .i64 bn],.int .i64 now] w fun x w'=>x = .returned (.int .i64 (lateF ⟨ep,op,nx,nd,hv,bn⟩ now)) /\ Below w.heap.size w w':=by
 cases hg : goodS ⟨ep,op,nx,nd,hv,bn⟩
 ·have e : lateF ⟨ep,op,nx,nd,hv,bn⟩ now = 0:=by simp [lateF,hg]
  rw [e]
  clear e
  go_enter Tryz.func93,Tryz.ntmps93
  go_wp2_with (first | (go_at_call 33;refine (good_any _ _ _ _ _ _ _).mono ?_;rintro e w2 ⟨rfl,hb2⟩;have hz_w2 : w.heap.size + 1 <= w2.heap.size:=(by have h_:=hb2.size;first | omega | (simp at h_;omega));obtain ⟨hc1,hf1⟩:=bk hb2 (w.heap.size) (by first | omega | (simp;done) | (simp;omega));have hs1 : w.heap.size < w2.heap.size:=(by omega)))
  go_ret
  exact ⟨rfl,(by repeat (first | with_reducible exact Below.refl _ _ | (with_reducible refine Below.setCell ?_ (by first | omega | (simp;done) | (simp;omega)) _) | with_reducible refine bal ?_ _ | with_reducible refine Below.drew ?_ | with_reducible refine bdn ?_ _ | with_reducible refine via ?_ (by with_reducible assumption)))⟩
 cases op
 ·have e : lateF ⟨ep,false,nx,nd,hv,bn⟩ now = 0:=by simp [lateF]
  rw [e]
  clear e
  go_enter Tryz.func93,Tryz.ntmps93
  go_wp2_with (first | (go_at_call 33;refine (good_any _ _ _ _ _ _ _).mono ?_;rintro e w2 ⟨rfl,hb2⟩;have hz_w2 : w.heap.size + 1 <= w2.heap.size:=(by have h_:=hb2.size;first | omega | (simp at h_;omega));obtain ⟨hc1,hf1⟩:=bk hb2 (w.heap.size) (by first | omega | (simp;done) | (simp;omega));have hs1 : w.heap.size < w2.heap.size:=(by omega)))
  go_ret
  exact ⟨rfl,(by repeat (first | with_reducible exact Below.refl _ _ | (with_reducible refine Below.setCell ?_ (by first | omega | (simp;done) | (simp;omega)) _) | with_reducible refine bal ?_ _ | with_reducible refine Below.drew ?_ | with_reducible refine bdn ?_ _ | with_reducible refine via ?_ (by with_reducible assumption)))⟩
 by_cases h1 : now < bn
 ·have e : lateF ⟨ep,true,nx,nd,hv,bn⟩ now = 0:=by (have hl : longB bn now = false:=by (simp [longB];omega));simp [lateF,hl]
  rw [e]
  clear e
  go_enter Tryz.func93,Tryz.ntmps93
  go_wp2_with (first | (go_at_call 33;refine (good_any _ _ _ _ _ _ _).mono ?_;rintro e w2 ⟨rfl,hb2⟩;have hz_w2 : w.heap.size + 1 <= w2.heap.size:=(by have h_:=hb2.size;first | omega | (simp at h_;omega));obtain ⟨hc1,hf1⟩:=bk hb2 (w.heap.size) (by first | omega | (simp;done) | (simp;omega));have hs1 : w.heap.size < w2.heap.size:=(by omega)))
  go_ret
  exact ⟨rfl,(by repeat (first | with_reducible exact Below.refl _ _ | (with_reducible refine Below.setCell ?_ (by first | omega | (simp;done) | (simp;omega)) _) | with_reducible refine bal ?_ _ | with_reducible refine Below.drew ?_ | with_reducible refine bdn ?_ _ | with_reducible refine via ?_ (by with_reducible assumption)))⟩
 have h1' : bn <= now:=by omega
 by_cases h2 : IntKind.u64.wrap (IntKind.u64.wrap now - IntKind.u64.wrap bn) < 200
 ·have e : lateF ⟨ep,true,nx,nd,hv,bn⟩ now = 0:=by (have hl : longB bn now = false:=by (simp [longB];omega));simp [lateF,hl]
  rw [e]
  clear e
  go_enter Tryz.func93,Tryz.ntmps93
  go_wp2_with (first | (go_at_call 33;refine (good_any _ _ _ _ _ _ _).mono ?_;rintro e w2 ⟨rfl,hb2⟩;have hz_w2 : w.heap.size + 1 <= w2.heap.size:=(by have h_:=hb2.size;first | omega | (simp at h_;omega));obtain ⟨hc1,hf1⟩:=bk hb2 (w.heap.size) (by first | omega | (simp;done) | (simp;omega));have hs1 : w.heap.size < w2.heap.size:=(by omega)))
  go_ret
  exact ⟨rfl,(by repeat (first | with_reducible exact Below.refl _ _ | (with_reducible refine Below.setCell ?_ (by first | omega | (simp;done) | (simp;omega)) _) | with_reducible refine bal ?_ _ | with_reducible refine Below.drew ?_ | with_reducible refine bdn ?_ _ | with_reducible refine via ?_ (by with_reducible assumption)))⟩
 ·have h2' : 200 <= IntKind.u64.wrap (IntKind.u64.wrap now - IntKind.u64.wrap bn):=by omega
  have e : lateF ⟨ep,true,nx,nd,hv,bn⟩ now = bits .andNot .i64 nd hv:=by (have hl : longB bn now = true:=by (simp [longB];omega));simp [lateF,hl,hg]
  rw [e]
  clear e
  go_enter Tryz.func93,Tryz.ntmps93
  go_wp2_with (first | (go_at_call 33;refine (good_any _ _ _ _ _ _ _).mono ?_;rintro e w2 ⟨rfl,hb2⟩;have hz_w2 : w.heap.size + 1 <= w2.heap.size:=(by have h_:=hb2.size;first | omega | (simp at h_;omega));obtain ⟨hc1,hf1⟩:=bk hb2 (w.heap.size) (by first | omega | (simp;done) | (simp;omega));have hs1 : w.heap.size < w2.heap.size:=(by omega)))
  go_ret
  exact ⟨rfl,(by repeat (first | with_reducible exact Below.refl _ _ | (with_reducible refine Below.setCell ?_ (by first | omega | (simp;done) | (simp;omega)) _) | with_reducible refine bal ?_ _ | with_reducible refine Below.drew ?_ | with_reducible refine bdn ?_ _ | with_reducible refine via ?_ (by with_reducible assumption)))⟩
end Zx.Zr
namespace Zx.Zr
open Go Go.Proofs Go.RowKit
end Zx.Zr
namespace Zx.Zr
open Go Go.Proofs Go.RowKit
end Zx.Zr
namespace Zx.Zr
open Go Go.Proofs Go.RowKit
end Zx.Zr
namespace Zx.Zr
open Go
end Zx.Zr
namespace Zx.Zr
open Go
end Zx.Zr
namespace Zx.Zr
open Go
end Zx.Zr
namespace Zx.Zr
open Go
end Zx.Zr
namespace Vx
open Go Zx Zx.Zr
end Vx
namespace VtTop
noncomputable section
open Go Zx Zx.Zr Vx
set_option maxRecDepth 100000
theorem lo_ad : LemOk tlAd:=by
 refine LemOk.genM (by decide +kernel) rfl (by decide +kernel) (by decide +kernel) fun ρ hC hF=>?_
 have h1:=rgI_get (sat_l hC) 0 (by decide)
 have h8:=rgI_get (sat_r hC)
 simp only [Nat.add_zero] at h1
 obtain ⟨j,hj,hi⟩ : ∃ j : Nat,j < 8 /\ ρ.i 1 = (j : Int):=⟨(ρ.i 1).toNat,by omega,by omega⟩
 have hb:=h8 j hj
 have hA:=setL_agr ρ 10 [ρ.i (2 + j)]
 have h10 : (setL ρ 10 [ρ.i (2 + j)]).i 10 = ρ.i (2 + j):=setL_at0 ρ 10 _
 refine ⟨_,List.mem_cons_self,setL ρ 10 [ρ.i (2 + j)],hA,rgI_sat fun i hi'=>?_,all_nil,fun m hm=>?_⟩
 ·have : i = 0:=by omega
  subst this
  rw [Nat.add_zero,h10];exact hb
 ·rw [List.mem_singleton.1 hm]
  have key : ∀ (n v : Nat) (cs : List CS) (off : Int),n <= cs.length -> ∀ j,j < n -> ∃ c,cs[j]? = some c /\ (⟨0,⟨off + (j : Int),[(0,1)]⟩,c,cI .i64 (v + j)⟩ : Cell) ∈ rmG 0 off cs (rnI v n):=by
   intro n
   induction n with
   | zero=>intro v cs off _ j hj;omega
   | succ n ih=>
    intro v cs off hl j hj
    cases cs with
    | nil=>simp at hl
    | cons c cs=>
     simp only [rnI,rmG,gI_eq]
     cases j with
     | zero=>exact ⟨c,rfl,by simp⟩
     | succ j=>
      obtain ⟨c',h1,h2⟩:=ih (v + 1) cs (off + 1) (by simpa using hl) j (by omega)
      refine ⟨c',by simpa using h1,List.mem_cons_of_mem _ ?_⟩
      rw [show off + ((j + 1 : Nat) : Int) = off + 1 + (j : Int) by omega,show v + (j + 1) = v + 1 + j by omega]
      exact h2
  obtain ⟨c,k1,k2⟩:=key 8 2 ((zTab 49).drop 8) 8 (by decide) j hj
  have hc : c = (zTab 49).getD 8 (.bool 0):=by
   match j,hj,k1 with
   | 0,_,k1=>cases k1;rfl
   | 1,_,k1=>cases k1;rfl
   | 2,_,k1=>cases k1;rfl
   | 3,_,k1=>cases k1;rfl
   | 4,_,k1=>cases k1;rfl
   | 5,_,k1=>cases k1;rfl
   | 6,_,k1=>cases k1;rfl
   | 7,_,k1=>cases k1;rfl
  refine ⟨_,k2,rfl,.inr ?_,hc.symm, ?_⟩
  ·simp only [Lin.den,Tm.den]
   rw [← hA.i 1 (by omega),← hA.i 0 (by omega),hi]
   omega
  ·simp only [valD,cI,Lin.var_den,h10]
def lem_ad8 : Lem:=⟨tlAd,lo_ad⟩
end
end VtTop
