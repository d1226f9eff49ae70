/- Numbers that were had: what the document tells; the laws. No condition. -/
import Derived.Test.YtpbcnhkdknmgjaaSxRf3
import Derived.Test.YtpbcnhkdknmgjaaRf5
namespace Go.Proofs.Ytpbcnhkdknmgjaa.Sx
open Go Go.RowKit
set_option linter.unusedVariables false
set_option linter.unusedSimpArgs false
def okC : Con1 := { pat := [], out := fun _ _ => .ret [c1B true] }
def envW : List (FuncId × Spec) := [(8, addC.spec), (9, fitsC.spec), (10, hasC.spec), (11, sameC.spec), (12, addC.spec), (13, hasC.spec), (14, fitsC.spec), (15, hasC.spec), (16, betC.spec)]
def envV : List (FuncId × Spec) := (7, okC.spec) :: envW
def saysC : Con1 := { pat := [.r .u16, .v (.i .u16), .r .i64], out := fun _ _ => .ret [c1B true] }
def fitLC : Con1 := { pat := [.r .u16, .v (.i .u16), .r .u16, .v (.i .u16)], out := fun _ _ => .ret [c1B true] }
def lawAnn : Ann where
  A := Int × List Int × Nat
  names := fun s => [0, 1, ownN (s.slots.getD 9 .u)]
  r1 := fun s t => [(0, 0), (1, 1), (ownN (s.slots.getD 9 .u), ownN (t.slots.getD 9 .u))]
  st := fun _ a s => { s with slots := ((((keepS [0, 1, 2, 3] 0 s.slots).set 11 (one (.int .i64 a.1))).set 10 (one (.boo (fitF (rowN (s.heap 0)) (intN (s.slots.getD 1 .u)) a.2.1))))).set 9 (one (.own (ownN (s.slots.getD 9 .u)) a.2.1.length a.2.2 false)), heap := upd s.heap (ownN (s.slots.getD 9 .u)) (some (.oints .i64 a.2.1)) }
  inv := fun s _ a => 0 ≤ a.1 ∧ a.1 ≤ ((rowN (s.heap 1)).length : Int) ∧ a.2.1 = difN ((rowN (s.heap 1)).take a.1.toNat)
  dec := fun s a => (((rowN (s.heap 1)).length : Int) - a.1).toNat
  wit := fun s => (intN (s.slots.getD 11 .u), rowN (s.heap (ownN (s.slots.getD 9 .u))), capN (s.slots.getD 9 .u))
def lawCtl : Ctl := { lp := fun j => if j = 8 then some lawAnn else none, cut := fun _ => none, fuel := 0, owns := fun j => if j = 8 then some (9, .i64) else none }
def playsC : Con1 := { pat := [.r .u16], out := fun _ _ => .ret [c1B true] }
def pl1 : Ann where
  A := Int × List Int × Nat
  names := fun s => [0, ownN (s.slots.getD 3 .u)]
  r1 := fun s t => [(0, 0), (ownN (s.slots.getD 3 .u), ownN (t.slots.getD 3 .u))]
  st := fun _ a s => { s with slots := ((keepS [0] 0 s.slots).set 4 (one (.int .i64 a.1))).set 3 (one (.own (ownN (s.slots.getD 3 .u)) a.2.1.length a.2.2 false)), heap := upd s.heap (ownN (s.slots.getD 3 .u)) (some (.oints .u16 a.2.1)) }
  inv := fun s _ a => 0 ≤ a.1 ∧ a.1 ≤ ((rowN (s.heap 0)).length : Int) ∧ a.2.1.reverse = addGo ((rowN (s.heap 0)).take a.1.toNat).reverse []
  dec := fun s a => (((rowN (s.heap 0)).length : Int) - a.1).toNat
  wit := fun s => (intN (s.slots.getD 4 .u), rowN (s.heap (ownN (s.slots.getD 3 .u))), capN (s.slots.getD 3 .u))
def pl2 : Ann where
  A := Int × Int
  names := fun s => [0, ownN (s.slots.getD 3 .u)]
  r1 := fun s t => [(0, 0), (ownN (s.slots.getD 3 .u), ownN (t.slots.getD 3 .u))]
  st := fun _ a s => { s with slots := ((keepS [0, 3] 0 s.slots).set 5 (one (.int .i64 a.1))).set 6 (one (.int .i64 a.2)) }
  inv := fun s _ a => 0 ≤ a.1 ∧ a.1 ≤ ((rowN (s.heap 0)).length : Int) ∧ -1 ≤ a.2 ∧ a.2 < ((rowN (s.heap (ownN (s.slots.getD 3 .u)))).length : Int) ∧ jF (rowN (s.heap 0)) (rowN (s.heap (ownN (s.slots.getD 3 .u)))) a.1 (a.2 + 1)
  dec := fun _ a => (a.2 + 1).toNat
  wit := fun s => (intN (s.slots.getD 5 .u), intN (s.slots.getD 6 .u))
def pl3 : Ann where
  A := Int
  names := fun s => [0, ownN (s.slots.getD 3 .u)]
  r1 := fun s t => [(0, 0), (ownN (s.slots.getD 3 .u), ownN (t.slots.getD 3 .u))]
  st := fun _ a s => { s with slots := (keepS [0, 3, 5, 6] 0 s.slots).set 7 (one (.int .i64 a)) }
  inv := fun s _ a => -1 ≤ a ∧ a < intN (s.slots.getD 5 .u) ∧ jF (rowN (s.heap 0)) (rowN (s.heap (ownN (s.slots.getD 3 .u)))) (a + 1) (intN (s.slots.getD 6 .u) + 1)
  dec := fun _ a => (a + 1).toNat
  wit := fun s => intN (s.slots.getD 7 .u)
def plCtl : Ctl := { lp := fun j => if j = 7 then some pl1 else if j = 14 then some pl2 else if j = 17 then some pl3 else none, cut := fun _ => none, fuel := 0, owns := fun j => if j = 7 then some (3, .u16) else none }
theorem envW_ok : EnvOk Try.prog (envL envW) := envL_cons ⟨_, Try.func8, rfl, by kernel_rfl⟩ add8_ok (envL_cons ⟨_, Try.func9, rfl, by kernel_rfl⟩ fit9_ok (envL_cons ⟨_, Try.func10, rfl, by kernel_rfl⟩ hasP_ok (envL_cons ⟨_, Try.func11, rfl, by kernel_rfl⟩ same_ok (envL_cons ⟨_, Try.func12, rfl, by kernel_rfl⟩ add12_ok (envL_cons ⟨_, Try.func13, rfl, by kernel_rfl⟩ has13_ok (envL_cons ⟨_, Try.func14, rfl, by kernel_rfl⟩ fit14_ok (envL_cons ⟨_, Try.func15, rfl, by kernel_rfl⟩ has15_ok (envL_cons ⟨_, Try.func16, rfl, by kernel_rfl⟩ bet_ok (envL_nil _)))))))))

set_option maxRecDepth 100000 in
set_option maxHeartbeats 8000000 in
theorem awake_vc : okC.vc Try.prog (envL envW) noCtl Try.f7 [] [] := of_eq (b := Lf ((2 : Nat) ≤ (900 : Nat)) ∧ ∀ (x : Nat), (2 : Nat) ≤ x → ((2 : Int) = (2 : Int) → Lf ((0 : Int) ≤ (0 : Int) ∧ (0 : Int) < (2 : Int)) ∧ Lf ((0 : Nat) < (2 : Nat)) ∧ ((6 : Int) = (6 : Int) → Lf ((0 : Int) ≤ (1 : Int) ∧ (1 : Int) < (2 : Int)) ∧ Lf ((1 : Nat) < (2 : Nat)) ∧ ((5 : Int) = (5 : Int) → ∀ (x : Bool), x = true → (x = true → ∀ (x : Bool), x = true → x = true ∧ True) ∧ (x = false → false = true ∧ True)) ∧ (¬(5 : Int) = (5 : Int) → false = true ∧ True)) ∧ (¬(6 : Int) = (6 : Int) → false = true ∧ True)) ∧ (¬(2 : Int) = (2 : Int) → false = true ∧ True)) (by kernel_rfl) (by
  repeat' (first | apply And.intro | apply Lf.mk | intro _)
  all_goals first | trivial | omega | (exfalso; simp_all; done))
set_option maxRecDepth 100000 in
theorem awake_ok : SpecOk Try.prog 7 okC.spec := okC.ok envW_ok mixed (C := noCtl) Try.func7 rfl fun L R h hr hc hp => by
  obtain rfl := fit_nil h
  obtain rfl : R = [] := List.eq_nil_of_length_eq_zero hr
  exact awake_vc  
theorem envV_ok : EnvOk Try.prog (envL envV) := envL_cons ⟨_, Try.func7, rfl, by kernel_rfl⟩ awake_ok envW_ok

set_option maxRecDepth 100000 in
set_option maxHeartbeats 8000000 in
theorem known_vc : okC.vc Try.prog (envL envV) noCtl Try.f3 [] [] := of_eq (b := (false = true → false = true ∧ True) ∧ (false = false → Lf ((0 : Nat) ≤ (900 : Nat)) ∧ ∀ (x : Nat), (1 : Nat) ≤ x → ∀ (x : Bool), x = true → (x = true → ∀ (x : Bool), x = false → ((!x) = true → ∀ (x : Bool), x = false → ((!x) = true → ∀ (x : Bool), x = false → ((!x) = true → ∀ (x : Bool), x = true → (x = true → ∀ (x : Bool), x = false → ((!x) = true → ∀ (x : Bool), x = true → (x = true → ∀ (x : Bool), x = false → ((!x) = true → ((1 : Int) = (1 : Int) → true = true ∧ True) ∧ (¬(1 : Int) = (1 : Int) → false = true ∧ True)) ∧ ((!x) = false → false = true ∧ True)) ∧ (x = false → false = true ∧ True)) ∧ ((!x) = false → false = true ∧ True)) ∧ (x = false → false = true ∧ True)) ∧ ((!x) = false → false = true ∧ True)) ∧ ((!x) = false → false = true ∧ True)) ∧ ((!x) = false → false = true ∧ True)) ∧ (x = false → false = true ∧ True))) (by kernel_rfl) (by
  repeat' (first | apply And.intro | apply Lf.mk | intro _)
  all_goals first | trivial | omega | (exfalso; simp_all; done))
set_option maxRecDepth 100000 in
set_option maxHeartbeats 8000000 in
theorem says_vc (v : Int) (L : List Int) (c : Nat) (D : List Int) (d : Nat) : saysC.vc Try.prog (envL envV) noCtl Try.f4 [.I v] [⟨L, c⟩, ⟨D, d⟩] := of_eq (b := (false = true → false = true ∧ True) ∧ (false = false → ((400 : Int) < ↑L.length → true = true ∧ True) ∧ (¬(400 : Int) < ↑L.length → ((100 : Int) < ↑D.length → true = true ∧ True) ∧ (¬(100 : Int) < ↑D.length → Lf ((0 : Nat) + L.length ≤ L.length) ∧ Lf ((List.take L.length (List.drop (0 : Nat) L)).length ≤ (900 : Nat)) ∧ ∀ (x : Nat), (addF (List.take L.length (List.drop (0 : Nat) L)) v).length ≤ x → Lf ((0 : Nat) + L.length ≤ L.length) ∧ Lf ((List.take L.length (List.drop (0 : Nat) L)).length ≤ (900 : Nat)) ∧ ∀ (x : Nat), (addF (List.take L.length (List.drop (0 : Nat) L)) v).length ≤ x → ∀ (x : Bool), x = decide (addF (List.take L.length (List.drop (0 : Nat) L)) v = addF (List.take L.length (List.drop (0 : Nat) L)) v) → (x = true → Lf ((0 : Nat) + L.length ≤ L.length) ∧ ∀ (x : Bool), x = hasF (List.take L.length (List.drop (0 : Nat) L)) v → Lf ((0 : Nat) + L.length ≤ L.length) ∧ ∀ (x_1 : Bool), x_1 = hasF (List.take L.length (List.drop (0 : Nat) L)) v → (x = x_1 → Lf ((0 : Nat) + L.length ≤ L.length) ∧ Lf ((0 : Nat) + D.length ≤ D.length) ∧ ∀ (x : Bool), x = fitF (List.take L.length (List.drop (0 : Nat) L)) v (List.take D.length (List.drop (0 : Nat) D)) → Lf ((0 : Nat) + L.length ≤ L.length) ∧ Lf ((0 : Nat) + D.length ≤ D.length) ∧ ∀ (x_2 : Bool), x_2 = fitF (List.take L.length (List.drop (0 : Nat) L)) v (List.take D.length (List.drop (0 : Nat) D)) → (x = x_2 → true = true ∧ True) ∧ (¬x = x_2 → false = true ∧ True)) ∧ (¬x = x_1 → false = true ∧ True)) ∧ (x = false → false = true ∧ True))))) (by kernel_rfl) (by
  simp only [List.drop_zero, List.take_length]
  refine ⟨fun h => (by cases h), fun _ => ⟨fun _ => (by simp), fun _ => ⟨fun _ => (by simp), fun _ => ⟨⟨by omega⟩, ⟨by omega⟩, fun c1 _ => ⟨⟨by omega⟩, ⟨by omega⟩, fun c2 _ b hb => ?_⟩⟩⟩⟩⟩
  simp only [decide_true] at hb
  subst hb
  refine ⟨fun _ => ⟨⟨by omega⟩, fun x hx => ⟨⟨by omega⟩, fun y hy => ?_⟩⟩, fun h => (by cases h)⟩
  obtain rfl := hx.trans hy.symm
  refine ⟨fun _ => ⟨⟨by omega⟩, ⟨by omega⟩, fun x hx => ⟨⟨by omega⟩, ⟨by omega⟩, fun y hy => ?_⟩⟩, fun h => absurd rfl h⟩
  obtain rfl := hx.trans hy.symm
  exact ⟨fun _ => (by simp), fun h => absurd rfl h⟩)
theorem tmod_bd {x : Int} (h0 : 0 ≤ x) : 0 ≤ x.tmod 4096 ∧ x.tmod 4096 < 4096 := by
  rw [Int.tmod_eq_emod_of_nonneg h0]; omega
theorem getD_bd {D : List Int} (h : ∀ x ∈ D, 0 ≤ x ∧ x ≤ 65535) (i : Nat) : 0 ≤ D.getD i 0 := by
  rw [List.getD_eq_getElem?_getD]
  by_cases hi : i < D.length
  · simp [hi]; exact (h _ (List.getElem_mem hi)).1
  · simp [hi]
theorem fit_one (L S : List Int) (v x : Int) (h1 : 1 ≤ x) (h2 : x ≤ 4096) : fitF L v (S ++ [x]) = (fitF L v S && hasF L (IntKind.u16.wrap (v - IntKind.u16.wrap x))) := by
  rw [fitF_snoc]; simp [h1, h2]
set_option maxRecDepth 100000 in
set_option maxHeartbeats 8000000 in
theorem fitL_vc (v m : Int) (L : List Int) (c : Nat) (D : List Int) (d : Nat) (hm : 0 ≤ m) (hD : ∀ x ∈ D, 0 ≤ x ∧ x ≤ 65535) : fitLC.vc Try.prog (envL envV) lawCtl Try.f6 [.I v, .I m] [⟨L, c⟩, ⟨D, d⟩] := of_eq (b := (false = true → false = true ∧ True) ∧ (false = false → ((300 : Int) < ↑L.length → true = true ∧ True) ∧ (¬(300 : Int) < ↑L.length → ((50 : Int) < ↑D.length → true = true ∧ True) ∧ (¬(50 : Int) < ↑D.length → ∀ (c_1 : Nat), (0 : Nat) ≤ c_1 → ((((((0 : Nat) = (0 : Nat) ∧ (0 : Nat) = (0 : Nat)) ∧ L.length = L.length ∧ c = c) ∧ v = v ∧ (((0 : Nat) = (0 : Nat) ∧ (0 : Nat) = (0 : Nat)) ∧ D.length = D.length ∧ d = d) ∧ m = m ∧ ((0 : Nat) = ([] : List Int).length ∧ c_1 = c_1) ∧ true = fitF L v ([] : List Int) ∧ (0 : Int) = (0 : Int) ∧ True) ∧ L = L ∧ D = D ∧ ([] : List Int) = [] ∧ True) ∧ Lf ((0 : Int) ≤ (0 : Int) ∧ (0 : Int) ≤ ↑D.length ∧ ([] : List Int) = difN (List.take (Int.toNat (0 : Int)) D))) ∧ ∀ (x : Int × List Int × Nat), (0 : Int) ≤ x.fst ∧ x.fst ≤ ↑D.length ∧ x.snd.fst = difN (List.take x.fst.toNat D) → (x.fst < ↑D.length → Lf ((0 : Int) ≤ x.fst ∧ x.fst < ↑D.length) ∧ Lf ((0 : Nat) + x.fst.toNat < D.length) ∧ ∀ (x_1 : Int), x_1 = (D.getD ((0 : Nat) + x.fst.toNat) (0 : Int)).tmod (4096 : Int) → ∀ (x_2 : Int), x_2 = IntKind.i64.wrap x_1 → ∀ (x_3 : Int), x_3 = IntKind.i64.wrap (x_2 + (1 : Int)) → Lf ((x.snd.fst ++ [x_3]).length * (8 : Nat) ≤ (140737488355328 : Nat)) ∧ ∀ (x_4 : Nat), (x.snd.fst ++ [x_3]).length ≤ x_4 → (fitF L v x.snd.fst = true → ∀ (x_5 : Int), x_5 = IntKind.u16.wrap x_3 → ∀ (x_6 : Int), x_6 = IntKind.u16.wrap (v - x_5) → Lf ((0 : Nat) + L.length ≤ L.length) ∧ ∀ (x_7 : Bool), x_7 = hasF (List.take L.length (List.drop (0 : Nat) L)) x_6 → ∀ (x_8 : Int), x_8 = IntKind.i64.wrap (x.fst + (1 : Int)) → ((((((0 : Nat) = (0 : Nat) ∧ (0 : Nat) = (0 : Nat)) ∧ L.length = L.length ∧ c = c) ∧ v = v ∧ (((0 : Nat) = (0 : Nat) ∧ (0 : Nat) = (0 : Nat)) ∧ D.length = D.length ∧ d = d) ∧ m = m ∧ ((x.snd.fst ++ [x_3]).length = (x.snd.fst ++ [x_3]).length ∧ x_4 = x_4) ∧ x_7 = fitF L v (x.snd.fst ++ [x_3]) ∧ x_8 = x_8 ∧ True) ∧ L = L ∧ D = D ∧ x.snd.fst ++ [x_3] = x.snd.fst ++ [x_3] ∧ True) ∧ Lf ((0 : Int) ≤ x_8 ∧ x_8 ≤ ↑D.length ∧ x.snd.fst ++ [x_3] = difN (List.take x_8.toNat D))) ∧ Lf ((↑D.length - x_8).toNat < (↑D.length - x.fst).toNat)) ∧ (fitF L v x.snd.fst = false → ∀ (x_5 : Int), x_5 = IntKind.i64.wrap (x.fst + (1 : Int)) → ((((((0 : Nat) = (0 : Nat) ∧ (0 : Nat) = (0 : Nat)) ∧ L.length = L.length ∧ c = c) ∧ v = v ∧ (((0 : Nat) = (0 : Nat) ∧ (0 : Nat) = (0 : Nat)) ∧ D.length = D.length ∧ d = d) ∧ m = m ∧ ((x.snd.fst ++ [x_3]).length = (x.snd.fst ++ [x_3]).length ∧ x_4 = x_4) ∧ false = fitF L v (x.snd.fst ++ [x_3]) ∧ x_5 = x_5 ∧ True) ∧ L = L ∧ D = D ∧ x.snd.fst ++ [x_3] = x.snd.fst ++ [x_3] ∧ True) ∧ Lf ((0 : Int) ≤ x_5 ∧ x_5 ≤ ↑D.length ∧ x.snd.fst ++ [x_3] = difN (List.take x_5.toNat D))) ∧ Lf ((↑D.length - x_5).toNat < (↑D.length - x.fst).toNat))) ∧ (¬x.fst < ↑D.length → ∀ (x_1 : Int), x_1 = m.tmod (4096 : Int) → ∀ (x_2 : Int), x_2 = IntKind.i64.wrap x_1 → ∀ (x_3 : Int), x_3 = IntKind.i64.wrap (x_2 + (1 : Int)) → Lf ((0 : Nat) + L.length ≤ L.length) ∧ ∀ (x_4 : Bool), x_4 = fitF (List.take L.length (List.drop (0 : Nat) L)) v x.snd.fst → (x_4 = fitF L v x.snd.fst → Lf ((x.snd.fst ++ [x_3]).length * (8 : Nat) ≤ (140737488355328 : Nat)) ∧ ∀ (x_5 : Nat), (x.snd.fst ++ [x_3]).length ≤ x_5 → Lf ((0 : Nat) + L.length ≤ L.length) ∧ ∀ (x_6 : Bool), x_6 = fitF (List.take L.length (List.drop (0 : Nat) L)) v (x.snd.fst ++ [x_3]) → (fitF L v x.snd.fst = true → ∀ (x : Int), x = IntKind.u16.wrap x_3 → ∀ (x_7 : Int), x_7 = IntKind.u16.wrap (v - x) → Lf ((0 : Nat) + L.length ≤ L.length) ∧ ∀ (x : Bool), x = hasF (List.take L.length (List.drop (0 : Nat) L)) x_7 → (x_6 = x → true = true ∧ True) ∧ (¬x_6 = x → false = true ∧ True)) ∧ (fitF L v x.snd.fst = false → (x_6 = false → true = true ∧ True) ∧ (¬x_6 = false → false = true ∧ True))) ∧ (¬x_4 = fitF L v x.snd.fst → false = true ∧ True)))))) (by kernel_rfl) (by
  simp only [List.drop_zero, List.take_length, Nat.zero_add]
  refine ⟨fun h => (by cases h), fun _ => ⟨fun _ => (by simp), fun _ => ⟨fun _ => (by simp), fun _ c1 _ => ⟨⟨by simp [fitF], ⟨by omega, by omega, by simp [difN]⟩⟩, ?_⟩⟩⟩⟩
  rintro ⟨i, S, cc⟩ ⟨i0, i1, hi⟩
  dsimp only at *
  have hlen : S.length = i.toNat := by rw [hi, difN_len]; simp; omega
  refine ⟨fun hlt => ⟨⟨by omega⟩, ⟨by omega⟩, fun x1 h1 x2 h2 x3 h3 => ⟨⟨by simp; omega⟩, fun c2 _ => ?_⟩⟩, fun hge x1 h1 x2 h2 x3 h3 => ?_⟩
  · have hb := tmod_bd (getD_bd hD i.toNat)
    rw [← h1] at hb
    have e2 : x2 = x1 := by subst h2; simp only [IntKind.wrap_i64]; omega
    have e3 : x3 = x1 + 1 := by subst h3; simp only [IntKind.wrap_i64]; omega
    have hsn : S ++ [x3] = difN (D.take (i.toNat + 1)) := by rw [take_snoc (by omega), difN_snoc, hi, e3, h1]
    have hs : (i + 1).toNat = i.toNat + 1 := by omega
    refine ⟨fun hf x5 h5 x6 h6 => ⟨⟨by omega⟩, fun x7 h7 j hj => ?_⟩, fun hf j hj => ?_⟩
    · have hj2 : j = i + 1 := by subst hj; simp only [IntKind.wrap_i64]; omega
      subst hj2
      have e7 : x7 = fitF L v (S ++ [x3]) := by rw [fit_one _ _ _ _ (by omega) (by omega), hf, h7, h6, h5]; simp
      refine ⟨⟨by simp [e7], ⟨by omega, by omega, by rw [hs]; exact hsn⟩⟩, ⟨by omega⟩⟩
    · have hj2 : j = i + 1 := by subst hj; simp only [IntKind.wrap_i64]; omega
      subst hj2
      have e7 : false = fitF L v (S ++ [x3]) := by rw [fit_one _ _ _ _ (by omega) (by omega), hf]; simp
      refine ⟨⟨by simp [← e7], ⟨by omega, by omega, by rw [hs]; exact hsn⟩⟩, ⟨by omega⟩⟩
  · have hb := tmod_bd hm
    rw [← h1] at hb
    have e2 : x2 = x1 := by subst h2; simp only [IntKind.wrap_i64]; omega
    have e3 : x3 = x1 + 1 := by subst h3; simp only [IntKind.wrap_i64]; omega
    refine ⟨⟨by omega⟩, fun x4 h4 => ⟨fun e4 => ⟨⟨by simp; omega⟩, fun c2 _ => ⟨⟨by omega⟩, fun x6 h6 => ⟨fun hf x5 h5 x7 h7 => ⟨⟨by omega⟩, fun x8 h8 => ?_⟩, fun hf => ?_⟩⟩⟩, fun h => absurd h4 h⟩⟩
    · have : x6 = x8 := by rw [h6, fit_one _ _ _ _ (by omega) (by omega), hf, h8, h7, h5]; simp
      exact ⟨fun _ => (by simp), fun h => absurd this h⟩
    · have : x6 = false := by rw [h6, fit_one _ _ _ _ (by omega) (by omega), hf]; simp
      exact ⟨fun _ => (by simp), fun h => absurd this h⟩)
set_option maxRecDepth 100000 in
set_option maxHeartbeats 8000000 in
theorem plays_vc (L : List Int) (c : Nat) : playsC.vc Try.prog (envL envV) plCtl Try.f5 [] [⟨L, c⟩] := of_eq (b := (false = true → false = true ∧ True) ∧ (false = false → ((600 : Int) < ↑L.length → true = true ∧ True) ∧ (¬(600 : Int) < ↑L.length → ∀ (c_1 : Nat), (0 : Nat) ≤ c_1 → ((((((0 : Nat) = (0 : Nat) ∧ (0 : Nat) = (0 : Nat)) ∧ L.length = L.length ∧ c = c) ∧ ((0 : Nat) = ([] : List Int).length ∧ c_1 = c_1) ∧ (0 : Int) = (0 : Int) ∧ True) ∧ L = L ∧ ([] : List Int) = [] ∧ True) ∧ Lf ((0 : Int) ≤ (0 : Int) ∧ (0 : Int) ≤ ↑L.length ∧ ([] : List Int).reverse = addGo (List.take (Int.toNat (0 : Int)) L).reverse [])) ∧ ∀ (x : Int × List Int × Nat), (0 : Int) ≤ x.fst ∧ x.fst ≤ ↑L.length ∧ x.snd.fst.reverse = addGo (List.take x.fst.toNat L).reverse [] → (x.fst < ↑L.length → Lf ((0 : Int) ≤ x.fst ∧ x.fst < ↑L.length) ∧ Lf ((0 : Nat) + x.fst.toNat < L.length) ∧ Lf (x.snd.fst.length ≤ (900 : Nat)) ∧ ∀ (x_1 : Nat), (addF x.snd.fst (L.getD ((0 : Nat) + x.fst.toNat) (0 : Int))).length ≤ x_1 → (↑(addF x.snd.fst (L.getD ((0 : Nat) + x.fst.toNat) (0 : Int))).length = (0 : Int) → false = true ∧ True) ∧ (¬↑(addF x.snd.fst (L.getD ((0 : Nat) + x.fst.toNat) (0 : Int))).length = (0 : Int) → ((256 : Int) < ↑(addF x.snd.fst (L.getD ((0 : Nat) + x.fst.toNat) (0 : Int))).length → false = true ∧ True) ∧ (¬(256 : Int) < ↑(addF x.snd.fst (L.getD ((0 : Nat) + x.fst.toNat) (0 : Int))).length → ∀ (x_2 : Int), x_2 = IntKind.i64.wrap (↑(addF x.snd.fst (L.getD ((0 : Nat) + x.fst.toNat) (0 : Int))).length - (1 : Int)) → Lf ((0 : Int) ≤ x_2 ∧ x_2 < ↑(addF x.snd.fst (L.getD ((0 : Nat) + x.fst.toNat) (0 : Int))).length) ∧ Lf (x_2.toNat < (addF x.snd.fst (L.getD ((0 : Nat) + x.fst.toNat) (0 : Int))).length) ∧ Lf ((0 : Int) ≤ x.fst ∧ x.fst < ↑L.length) ∧ Lf ((0 : Nat) + x.fst.toNat < L.length) ∧ ((addF x.snd.fst (L.getD ((0 : Nat) + x.fst.toNat) (0 : Int))).getD x_2.toNat (0 : Int) = L.getD ((0 : Nat) + x.fst.toNat) (0 : Int) → ∀ (x_3 : Int), x_3 = IntKind.i64.wrap (x.fst + (1 : Int)) → ((((((0 : Nat) = (0 : Nat) ∧ (0 : Nat) = (0 : Nat)) ∧ L.length = L.length ∧ c = c) ∧ ((addF x.snd.fst (L.getD ((0 : Nat) + x.fst.toNat) (0 : Int))).length = (addF x.snd.fst (L.getD ((0 : Nat) + x.fst.toNat) (0 : Int))).length ∧ x_1 = x_1) ∧ x_3 = x_3 ∧ True) ∧ L = L ∧ addF x.snd.fst (L.getD ((0 : Nat) + x.fst.toNat) (0 : Int)) = addF x.snd.fst (L.getD ((0 : Nat) + x.fst.toNat) (0 : Int)) ∧ True) ∧ Lf ((0 : Int) ≤ x_3 ∧ x_3 ≤ ↑L.length ∧ (addF x.snd.fst (L.getD ((0 : Nat) + x.fst.toNat) (0 : Int))).reverse = addGo (List.take x_3.toNat L).reverse [])) ∧ Lf ((↑L.length - x_3).toNat < (↑L.length - x.fst).toNat)) ∧ (¬(addF x.snd.fst (L.getD ((0 : Nat) + x.fst.toNat) (0 : Int))).getD x_2.toNat (0 : Int) = L.getD ((0 : Nat) + x.fst.toNat) (0 : Int) → false = true ∧ True)))) ∧ (¬x.fst < ↑L.length → ∀ (x_1 : Int), x_1 = IntKind.i64.wrap (↑x.snd.fst.length - (1 : Int)) → ((((((0 : Nat) = (0 : Nat) ∧ (0 : Nat) = (0 : Nat)) ∧ L.length = L.length ∧ c = c) ∧ (x.snd.fst.length = x.snd.fst.length ∧ x.snd.snd = x.snd.snd) ∧ ↑L.length = Int.ofNat L.length ∧ x_1 = x_1 ∧ True) ∧ L = L ∧ x.snd.fst = x.snd.fst ∧ True) ∧ Lf ((0 : Int) ≤ Int.ofNat L.length ∧ Int.ofNat L.length ≤ ↑L.length ∧ (-1 : Int) ≤ x_1 ∧ x_1 < ↑x.snd.fst.length ∧ jF L x.snd.fst (Int.ofNat L.length) (x_1 + (1 : Int)))) ∧ ∀ (x_2 : Int × Int), (0 : Int) ≤ x_2.fst ∧ x_2.fst ≤ ↑L.length ∧ (-1 : Int) ≤ x_2.snd ∧ x_2.snd < ↑x.snd.fst.length ∧ jF L x.snd.fst x_2.fst (x_2.snd + (1 : Int)) → ((0 : Int) ≤ x_2.snd → ∀ (x_3 : Int), x_3 = IntKind.i64.wrap (x_2.fst - (1 : Int)) → ((((((0 : Nat) = (0 : Nat) ∧ (0 : Nat) = (0 : Nat)) ∧ L.length = L.length ∧ c = c) ∧ (x.snd.fst.length = x.snd.fst.length ∧ x.snd.snd = x.snd.snd) ∧ x_2.fst = x_2.fst ∧ x_2.snd = x_2.snd ∧ x_3 = x_3 ∧ True) ∧ L = L ∧ x.snd.fst = x.snd.fst ∧ True) ∧ Lf ((-1 : Int) ≤ x_3 ∧ x_3 < x_2.1 ∧ jF L x.snd.fst (x_3 + (1 : Int)) (x_2.2 + (1 : Int)))) ∧ ∀ (x_4 : Int), (-1 : Int) ≤ x_4 ∧ x_4 < x_2.1 ∧ jF L x.snd.fst (x_4 + (1 : Int)) (x_2.2 + (1 : Int)) → ((0 : Int) ≤ x_4 → Lf ((0 : Int) ≤ x_4 ∧ x_4 < ↑L.length) ∧ Lf ((0 : Nat) + x_4.toNat < L.length) ∧ Lf ((0 : Int) ≤ x_2.snd ∧ x_2.snd < ↑x.snd.fst.length) ∧ Lf (x_2.snd.toNat < x.snd.fst.length) ∧ (L.getD ((0 : Nat) + x_4.toNat) (0 : Int) = x.snd.fst.getD x_2.snd.toNat (0 : Int) → ∀ (x_5 : Int), x_5 = IntKind.i64.wrap (x_4 + (1 : Int)) → Lf ((0 : Int) ≤ x_5 ∧ x_5 ≤ ↑L.length) ∧ Lf ((0 : Int) ≤ x_4 ∧ x_4 < ↑L.length) ∧ Lf ((0 : Nat) + x_4.toNat < L.length) ∧ Lf ((0 : Nat) + x_5.toNat + (L.length - x_5.toNat) ≤ L.length) ∧ ∀ (x_6 : Bool), x_6 = hasF (List.take (L.length - x_5.toNat) (List.drop ((0 : Nat) + x_5.toNat) L)) (L.getD ((0 : Nat) + x_4.toNat) (0 : Int)) → (x_6 = true → ∀ (x_7 : Int), x_7 = IntKind.i64.wrap (x_4 - (1 : Int)) → ((((((0 : Nat) = (0 : Nat) ∧ (0 : Nat) = (0 : Nat)) ∧ L.length = L.length ∧ c = c) ∧ (x.snd.fst.length = x.snd.fst.length ∧ x.snd.snd = x.snd.snd) ∧ x_2.fst = x_2.fst ∧ x_2.snd = x_2.snd ∧ x_7 = x_7 ∧ True) ∧ L = L ∧ x.snd.fst = x.snd.fst ∧ True) ∧ Lf ((-1 : Int) ≤ x_7 ∧ x_7 < x_2.1 ∧ jF L x.snd.fst (x_7 + (1 : Int)) (x_2.2 + (1 : Int)))) ∧ Lf ((x_7 + (1 : Int)).toNat < (x_4 + (1 : Int)).toNat)) ∧ (x_6 = false → (x_4 < (0 : Int) → false = true ∧ True) ∧ (¬x_4 < (0 : Int) → ∀ (x_7 : Int), x_7 = IntKind.i64.wrap (x_4 + (1 : Int)) → ∀ (x_8 : Int), x_8 = IntKind.i64.wrap (x_2.snd + (1 : Int)) → Lf ((0 : Int) ≤ x_8 ∧ x_8 ≤ ↑x.snd.fst.length) ∧ Lf ((0 : Nat) + L.length ≤ L.length) ∧ Lf (x_8.toNat + (x.snd.fst.length - x_8.toNat) ≤ x.snd.fst.length) ∧ Lf ((0 : Int) ≤ x_7 ∧ x_2.1 ≤ ↑(List.take L.length (List.drop (0 : Nat) L)).length) ∧ ∀ (x_9 : Bool), x_9 = betF (List.take L.length (List.drop (0 : Nat) L)) x_7 x_2.1 (List.take (x.snd.fst.length - x_8.toNat) (List.drop x_8.toNat x.snd.fst)) → (x_9 = true → false = true ∧ True) ∧ (x_9 = false → ∀ (x_10 : Int), x_10 = IntKind.i64.wrap (x_2.snd - (1 : Int)) → ((((((0 : Nat) = (0 : Nat) ∧ (0 : Nat) = (0 : Nat)) ∧ L.length = L.length ∧ c = c) ∧ (x.snd.fst.length = x.snd.fst.length ∧ x.snd.snd = x.snd.snd) ∧ x_4 = x_4 ∧ x_10 = x_10 ∧ True) ∧ L = L ∧ x.snd.fst = x.snd.fst ∧ True) ∧ Lf ((0 : Int) ≤ x_4 ∧ x_4 ≤ ↑L.length ∧ (-1 : Int) ≤ x_10 ∧ x_10 < ↑x.snd.fst.length ∧ jF L x.snd.fst x_4 (x_10 + (1 : Int)))) ∧ Lf ((x_10 + (1 : Int)).toNat < (x_2.snd + (1 : Int)).toNat))))) ∧ (¬L.getD ((0 : Nat) + x_4.toNat) (0 : Int) = x.snd.fst.getD x_2.snd.toNat (0 : Int) → ∀ (x_5 : Int), x_5 = IntKind.i64.wrap (x_4 - (1 : Int)) → ((((((0 : Nat) = (0 : Nat) ∧ (0 : Nat) = (0 : Nat)) ∧ L.length = L.length ∧ c = c) ∧ (x.snd.fst.length = x.snd.fst.length ∧ x.snd.snd = x.snd.snd) ∧ x_2.fst = x_2.fst ∧ x_2.snd = x_2.snd ∧ x_5 = x_5 ∧ True) ∧ L = L ∧ x.snd.fst = x.snd.fst ∧ True) ∧ Lf ((-1 : Int) ≤ x_5 ∧ x_5 < x_2.1 ∧ jF L x.snd.fst (x_5 + (1 : Int)) (x_2.2 + (1 : Int)))) ∧ Lf ((x_5 + (1 : Int)).toNat < (x_4 + (1 : Int)).toNat))) ∧ (¬(0 : Int) ≤ x_4 → (x_4 < (0 : Int) → false = true ∧ True) ∧ (¬x_4 < (0 : Int) → ∀ (x_5 : Int), x_5 = IntKind.i64.wrap (x_4 + (1 : Int)) → ∀ (x_6 : Int), x_6 = IntKind.i64.wrap (x_2.snd + (1 : Int)) → Lf ((0 : Int) ≤ x_6 ∧ x_6 ≤ ↑x.snd.fst.length) ∧ Lf ((0 : Nat) + L.length ≤ L.length) ∧ Lf (x_6.toNat + (x.snd.fst.length - x_6.toNat) ≤ x.snd.fst.length) ∧ Lf ((0 : Int) ≤ x_5 ∧ x_2.1 ≤ ↑(List.take L.length (List.drop (0 : Nat) L)).length) ∧ ∀ (x_7 : Bool), x_7 = betF (List.take L.length (List.drop (0 : Nat) L)) x_5 x_2.1 (List.take (x.snd.fst.length - x_6.toNat) (List.drop x_6.toNat x.snd.fst)) → (x_7 = true → false = true ∧ True) ∧ (x_7 = false → ∀ (x_8 : Int), x_8 = IntKind.i64.wrap (x_2.snd - (1 : Int)) → ((((((0 : Nat) = (0 : Nat) ∧ (0 : Nat) = (0 : Nat)) ∧ L.length = L.length ∧ c = c) ∧ (x.snd.fst.length = x.snd.fst.length ∧ x.snd.snd = x.snd.snd) ∧ x_4 = x_4 ∧ x_8 = x_8 ∧ True) ∧ L = L ∧ x.snd.fst = x.snd.fst ∧ True) ∧ Lf ((0 : Int) ≤ x_4 ∧ x_4 ≤ ↑L.length ∧ (-1 : Int) ≤ x_8 ∧ x_8 < ↑x.snd.fst.length ∧ jF L x.snd.fst x_4 (x_8 + (1 : Int)))) ∧ Lf ((x_8 + (1 : Int)).toNat < (x_2.snd + (1 : Int)).toNat))))) ∧ (¬(0 : Int) ≤ x_2.snd → (↑x.snd.fst.length = (256 : Int) → true = true ∧ True) ∧ (¬↑x.snd.fst.length = (256 : Int) → Lf ((0 : Nat) + L.length ≤ L.length) ∧ Lf ((0 : Int) ≤ (0 : Int) ∧ x_2.1 ≤ ↑(List.take L.length (List.drop (0 : Nat) L)).length) ∧ ∀ (x_3 : Bool), x_3 = betF (List.take L.length (List.drop (0 : Nat) L)) (0 : Int) x_2.1 x.snd.fst → (!x_3) = true ∧ True)))))) (by kernel_rfl) (by
  have td : ∀ (A : List Int) (n : Nat), (A.drop n).take (A.length - n) = A.drop n := fun A n => List.take_of_length_le (by simp)
  simp only [List.drop_zero, List.take_length, Nat.zero_add, td]
  refine ⟨fun h => (by cases h), fun _ => ⟨fun _ => (by simp), fun hlen c1 _ => ⟨⟨by simp, ⟨by omega, by omega, by simp [addGo]⟩⟩, ?_⟩⟩⟩
  rintro ⟨i, k, cc⟩ ⟨i0, i1, hi⟩
  dsimp only at *
  have hk := len_of hi
  refine ⟨fun hlt => ?_, fun hge x1 hx1 => ?_⟩
  · obtain ⟨la, lp⟩ := addF_last k (L.getD i.toNat 0)
    have ll := addF_len k (L.getD i.toNat 0)
    have st := addF_step (n := L.getD i.toNat 0) hi
    rw [← take_snoc (by omega)] at st
    generalize addF k (L.getD i.toNat 0) = A at *
    have hs : (i + 1).toNat = i.toNat + 1 := by omega
    refine ⟨⟨by omega⟩, ⟨by omega⟩, ⟨by omega⟩, fun c2 _ => ⟨fun h => (by omega), fun _ => ⟨fun h => (by omega), fun _ x hx => ?_⟩⟩⟩
    have hx2 : x = (A.length : Int) - 1 := by subst hx; simp only [IntKind.wrap_i64]; omega
    have hx3 : x.toNat = A.length - 1 := by omega
    refine ⟨⟨by omega⟩, ⟨by omega⟩, ⟨by omega⟩, ⟨by omega⟩, fun _ j hj => ?_, fun h => absurd (by rw [hx3]; exact la) h⟩
    have hj2 : j = i + 1 := by subst hj; simp only [IntKind.wrap_i64]; omega
    subst hj2
    exact ⟨⟨by simp, ⟨by omega, by omega, by rw [hs]; exact st⟩⟩, ⟨by omega⟩⟩
  · have hil : i.toNat = L.length := by omega
    rw [hil, List.take_length] at hi
    have hx2 : x1 = (k.length : Int) - 1 := by subst hx1; simp only [IntKind.wrap_i64]; omega
    have hx3 : x1 + 1 = (k.length : Int) := by omega
    refine ⟨⟨by simp, ⟨by simp, by simp, by omega, by omega, by rw [hx3]; exact jF_end hi⟩⟩, ?_⟩
    rintro ⟨at', q⟩ ⟨a0, a1, q0, q1, hJ⟩
    dsimp only at *
    refine ⟨fun hq x3 h3 => ?_, fun hq => ⟨fun _ => (by simp), fun hn => ⟨⟨by omega⟩, ⟨by omega, by omega⟩, fun b hb => ?_⟩⟩⟩
    · have e3 : x3 = at' - 1 := by subst h3; simp only [IntKind.wrap_i64]; omega
      have e3' : x3 + 1 = at' := by omega
      refine ⟨⟨by simp, ⟨by omega, by omega, by rw [e3']; exact hJ⟩⟩, ?_⟩
      rintro n ⟨n0, n1, hN⟩
      try dsimp only at *
      refine ⟨fun hz => ?_, fun hz => ?_⟩
      · refine ⟨⟨by omega⟩, ⟨by omega⟩, ⟨by omega⟩, ⟨by omega⟩, fun he x5 h5 => ?_, fun he j hj => ?_⟩
        · have e5 : x5 = n + 1 := by subst h5; simp only [IntKind.wrap_i64]; omega
          have e5' : x5.toNat = n.toNat + 1 := by omega
          rw [e5']
          refine ⟨⟨by omega⟩, ⟨by omega⟩, ⟨by omega⟩, ⟨by omega⟩, fun b hb => ⟨fun ht j hj => ?_, fun hf => ?_⟩⟩
          · have hj2 : j = n - 1 := by subst hj; simp only [IntKind.wrap_i64]; omega
            have hj3 : j + 1 = n := by omega
            have hx : L.getD n.toNat 0 ∈ L.drop (n.toNat + 1) := by rw [hb] at ht; simpa [hasF] using ht
            have := jF_skip hN hz (by omega) (by omega) (by omega) hx
            exact ⟨⟨by simp, ⟨by omega, by omega, by rw [hj3]; exact this⟩⟩, ⟨by omega⟩⟩
          · have hx : ¬(L.getD n.toNat 0 ∈ L.drop (n.toNat + 1)) := by rw [hb] at hf; simpa [hasF] using hf
            have hh := jF_hit hN hz (by omega) (by omega) (by omega) hx
            refine ⟨fun h => (by omega), fun _ x7 h7 x8 h8 => ?_⟩
            have e7 : x7 = n + 1 := by subst h7; simp only [IntKind.wrap_i64]; omega
            have e8 : x8 = q + 1 := by subst h8; simp only [IntKind.wrap_i64]; omega
            subst e7; subst e8
            refine ⟨⟨by omega⟩, ⟨by omega⟩, ⟨by omega⟩, ⟨by omega, by omega⟩, fun b hb => ⟨fun h => ?_, fun _ j hj => ?_⟩⟩
            · rw [jF_bet hN (by omega) (by omega)] at hb
              rw [hb] at h; cases h
            · have hj2 : j = q - 1 := by subst hj; simp only [IntKind.wrap_i64]; omega
              have hj3 : j + 1 = q := by omega
              exact ⟨⟨by simp, ⟨by omega, by omega, by omega, by omega, by rw [hj3]; exact hh.2⟩⟩, ⟨by omega⟩⟩
        · have hj2 : j = n - 1 := by subst hj; simp only [IntKind.wrap_i64]; omega
          have hj3 : j + 1 = n := by omega
          have hx : L.getD n.toNat 0 ∈ L.drop (n.toNat + 1) := Classical.byContradiction fun hx => he (jF_hit hN hz (by omega) (by omega) (by omega) hx).1
          have := jF_skip hN hz (by omega) (by omega) (by omega) hx
          exact ⟨⟨by simp, ⟨by omega, by omega, by rw [hj3]; exact this⟩⟩, ⟨by omega⟩⟩
      · have : n + 1 = 0 := by omega
        rw [this] at hN
        exact (jF_none hN (by omega) (by omega)).elim
    · have e : q + 1 = 0 := by omega
      rw [e] at hJ
      rw [jF_last hJ hn] at hb
      rw [hb]
      exact (by simp))
end Go.Proofs.Ytpbcnhkdknmgjaa.Sx
