/- Numbers that were had: Add as a contract; the contracts hold. No condition. -/
import Derived.Test.YtpbcnhkdknmgjaaSxRf2
namespace Go.Proofs.Ytpbcnhkdknmgjaa.Sx
open Go Go.RowKit
set_option linter.unusedVariables false
set_option linter.unusedSimpArgs false
set_option maxRecDepth 100000 in
theorem clone_ok : SpecOk Try.prog 17 cloneC.spec := cloneC.ok (envL_nil _) mixed (C := noCtl) Try.func17 rfl fun L R h hr hc hp => by
  obtain rfl := fit_nil h
  obtain ⟨⟨l, c⟩, rfl⟩ := List.length_eq_one_iff.1 hr
  have b1 := hc ⟨l, c⟩ (List.mem_singleton.2 rfl)
  exact clone_vc  l c b1.1 hp
set_option maxRecDepth 100000 in
theorem idx_ok : SpecOk Try.prog 20 idxC.spec := idxC.ok (envL_nil _) mixed (C := lpCtl 2 idxAnn) Try.func20 rfl fun L R h hr hc hp => by
  obtain ⟨v, _, rfl, h0⟩ := fit_i h
  obtain rfl := fit_nil h0
  obtain ⟨⟨l, c⟩, rfl⟩ := List.length_eq_one_iff.1 hr
  have b1 := hc ⟨l, c⟩ (List.mem_singleton.2 rfl)
  exact idx_vc v l c (Nat.le_trans b1.1 b1.2)
theorem envA0_ok : EnvOk Try.prog (envL envA0) := envL_cons ⟨_, Try.func20, rfl, by kernel_rfl⟩ idx_ok (envL_nil _)
set_option maxRecDepth 100000 in
theorem cont_ok : SpecOk Try.prog 18 hasC.spec := hasC.ok envA0_ok mixed (C := noCtl) Try.func18 rfl fun L R h hr hc hp => by
  obtain ⟨v, _, rfl, h0⟩ := fit_i h
  obtain rfl := fit_nil h0
  obtain ⟨⟨l, c⟩, rfl⟩ := List.length_eq_one_iff.1 hr
  have b1 := hc ⟨l, c⟩ (List.mem_singleton.2 rfl)
  exact cont_vc v l c 
theorem envA1_ok : EnvOk Try.prog (envL envA1) := envL_cons ⟨_, Try.func18, rfl, by kernel_rfl⟩ cont_ok (envL_nil _)
set_option maxRecDepth 100000 in
theorem hasP_ok : SpecOk Try.prog 10 hasC.spec := hasC.ok envA1_ok mixed (C := noCtl) Try.func10 rfl fun L R h hr hc hp => by
  obtain ⟨v, _, rfl, h0⟩ := fit_i h
  obtain rfl := fit_nil h0
  obtain ⟨⟨l, c⟩, rfl⟩ := List.length_eq_one_iff.1 hr
  have b1 := hc ⟨l, c⟩ (List.mem_singleton.2 rfl)
  exact hasP_vc v l c 
set_option maxRecDepth 100000 in
theorem has13_ok : SpecOk Try.prog 13 hasC.spec := hasC.ok (envL_nil _) mixed (C := lpCtl 2 hasAnn) Try.func13 rfl fun L R h hr hc hp => by
  obtain ⟨v, _, rfl, h0⟩ := fit_i h
  obtain rfl := fit_nil h0
  obtain ⟨⟨l, c⟩, rfl⟩ := List.length_eq_one_iff.1 hr
  have b1 := hc ⟨l, c⟩ (List.mem_singleton.2 rfl)
  exact has13_vc v l c (Nat.le_trans b1.1 b1.2)
set_option maxRecDepth 100000 in
theorem has15_ok : SpecOk Try.prog 15 hasC.spec := hasC.ok (envL_nil _) mixed (C := lpCtl 2 hasAnn) Try.func15 rfl fun L R h hr hc hp => by
  obtain ⟨v, _, rfl, h0⟩ := fit_i h
  obtain rfl := fit_nil h0
  obtain ⟨⟨l, c⟩, rfl⟩ := List.length_eq_one_iff.1 hr
  have b1 := hc ⟨l, c⟩ (List.mem_singleton.2 rfl)
  exact has15_vc v l c (Nat.le_trans b1.1 b1.2)
theorem envA2_ok : EnvOk Try.prog (envL envA2) := envL_cons ⟨_, Try.func10, rfl, by kernel_rfl⟩ hasP_ok (envL_cons ⟨_, Try.func13, rfl, by kernel_rfl⟩ has13_ok (envL_cons ⟨_, Try.func15, rfl, by kernel_rfl⟩ has15_ok (envL_nil _)))
theorem envA3_ok : EnvOk Try.prog (envL envA3) := envL_cons ⟨_, Try.func17, rfl, by kernel_rfl⟩ clone_ok (envL_cons ⟨_, Try.func18, rfl, by kernel_rfl⟩ cont_ok (envL_cons ⟨_, Try.func19, rfl, by kernel_rfl⟩ rev_ok (envL_cons ⟨_, Try.func13, rfl, by kernel_rfl⟩ has13_ok (envL_nil _))))

theorem take_rev {A : List Int} {i : Int} (h0 : 0 ≤ i) (h1 : i < (A.length : Int)) : (A.take (i + 1).toNat).reverse = A.getD i.toNat 0 :: (A.take i.toNat).reverse := by
  have hs : (i + 1).toNat = i.toNat + 1 := by omega
  rw [hs, take_snoc (by omega), List.reverse_append]
  rfl
theorem add_stop {xs acc : List Int} (h : ¬((acc.length : Int) < 256)) : addGo xs acc = acc := by
  cases xs with
  | nil => rfl
  | cons x xs => simp only [addGo]; rw [if_neg (by omega)]
theorem ref_stop {xs acc : List Int} (h : ¬((acc.length : Int) < 256)) : refGo xs acc = acc := by
  cases xs with
  | nil => rfl
  | cons x xs => simp only [refGo]; rw [if_neg (by omega)]
set_option maxRecDepth 100000 in
set_option maxHeartbeats 8000000 in
theorem add8_vc (v : Int) (L : List Int) (c : Nat) (hl : L.length ≤ 900) : addC.vc Try.prog (envL envA3) addCtl Try.f8 [.I v] [⟨L, c⟩] := of_eq (b := Lf ((0 : Nat) + L.length ≤ L.length) ∧ Lf ((List.take L.length (List.drop (0 : Nat) L)).length ≤ (1000 : Nat)) ∧ ∀ (x : Nat), (List.take L.length (List.drop (0 : Nat) L)).length ≤ x → Lf ((List.take L.length (List.drop (0 : Nat) L) ++ [v]).length * (2 : Nat) ≤ (140737488355328 : Nat)) ∧ ∀ (x : Nat), (List.take L.length (List.drop (0 : Nat) L) ++ [v]).length ≤ x → ∀ (x_1 : Int), x_1 = IntKind.i64.wrap ((↑(List.take L.length (List.drop (0 : Nat) L) ++ [v]).length : Int) - (1 : Int)) → ∀ (c : Nat), (0 : Nat) ≤ c → (((((List.take L.length (List.drop (0 : Nat) L) ++ [v]).length = (List.take L.length (List.drop (0 : Nat) L) ++ [v]).length ∧ x = x) ∧ ((0 : Nat) = ([] : List Int).length ∧ c = c) ∧ x_1 = x_1 ∧ True) ∧ List.take L.length (List.drop (0 : Nat) L) ++ [v] = List.take L.length (List.drop (0 : Nat) L) ++ [v] ∧ ([] : List Int) = [] ∧ True) ∧ Lf ((-1 : Int) ≤ x_1 ∧ x_1 < (↑(List.take L.length (List.drop (0 : Nat) L) ++ [v]).length : Int) ∧ ([] : List Int).length ≤ (256 : Nat) ∧ addGo (List.take (x_1 + (1 : Int)).toNat (List.take L.length (List.drop (0 : Nat) L) ++ [v])).reverse [] = addGo (List.take L.length (List.drop (0 : Nat) L) ++ [v]).reverse [])) ∧ ∀ (x_2 : Int × List Int × Nat), (-1 : Int) ≤ x_2.fst ∧ x_2.fst < (↑(List.take L.length (List.drop (0 : Nat) L) ++ [v]).length : Int) ∧ x_2.snd.fst.length ≤ (256 : Nat) ∧ addGo (List.take (x_2.fst + (1 : Int)).toNat (List.take L.length (List.drop (0 : Nat) L) ++ [v])).reverse x_2.snd.fst = addGo (List.take L.length (List.drop (0 : Nat) L) ++ [v]).reverse [] → ((0 : Int) ≤ x_2.fst → ((↑x_2.snd.fst.length : Int) < (256 : Int) → Lf ((0 : Int) ≤ x_2.fst ∧ x_2.fst < (↑(List.take L.length (List.drop (0 : Nat) L) ++ [v]).length : Int)) ∧ Lf (x_2.fst.toNat < (List.take L.length (List.drop (0 : Nat) L) ++ [v]).length) ∧ ∀ (x_3 : Bool), x_3 = hasF x_2.snd.fst ((List.take L.length (List.drop (0 : Nat) L) ++ [v]).getD x_2.fst.toNat (0 : Int)) → ((!x_3) = true → Lf ((0 : Int) ≤ x_2.fst ∧ x_2.fst < (↑(List.take L.length (List.drop (0 : Nat) L) ++ [v]).length : Int)) ∧ Lf (x_2.fst.toNat < (List.take L.length (List.drop (0 : Nat) L) ++ [v]).length) ∧ Lf ((x_2.snd.fst ++ [(List.take L.length (List.drop (0 : Nat) L) ++ [v]).getD x_2.fst.toNat (0 : Int)]).length * (2 : Nat) ≤ (140737488355328 : Nat)) ∧ ∀ (x_4 : Nat), (x_2.snd.fst ++ [(List.take L.length (List.drop (0 : Nat) L) ++ [v]).getD x_2.fst.toNat (0 : Int)]).length ≤ x_4 → ∀ (x_5 : Int), x_5 = IntKind.i64.wrap (x_2.fst - (1 : Int)) → (((((List.take L.length (List.drop (0 : Nat) L) ++ [v]).length = (List.take L.length (List.drop (0 : Nat) L) ++ [v]).length ∧ x = x) ∧ ((x_2.snd.fst ++ [(List.take L.length (List.drop (0 : Nat) L) ++ [v]).getD x_2.fst.toNat (0 : Int)]).length = (x_2.snd.fst ++ [(List.take L.length (List.drop (0 : Nat) L) ++ [v]).getD x_2.fst.toNat (0 : Int)]).length ∧ x_4 = x_4) ∧ x_5 = x_5 ∧ True) ∧ List.take L.length (List.drop (0 : Nat) L) ++ [v] = List.take L.length (List.drop (0 : Nat) L) ++ [v] ∧ x_2.snd.fst ++ [(List.take L.length (List.drop (0 : Nat) L) ++ [v]).getD x_2.fst.toNat (0 : Int)] = x_2.snd.fst ++ [(List.take L.length (List.drop (0 : Nat) L) ++ [v]).getD x_2.fst.toNat (0 : Int)] ∧ True) ∧ Lf ((-1 : Int) ≤ x_5 ∧ x_5 < (↑(List.take L.length (List.drop (0 : Nat) L) ++ [v]).length : Int) ∧ (x_2.snd.fst ++ [(List.take L.length (List.drop (0 : Nat) L) ++ [v]).getD x_2.fst.toNat (0 : Int)]).length ≤ (256 : Nat) ∧ addGo (List.take (x_5 + (1 : Int)).toNat (List.take L.length (List.drop (0 : Nat) L) ++ [v])).reverse (x_2.snd.fst ++ [(List.take L.length (List.drop (0 : Nat) L) ++ [v]).getD x_2.fst.toNat (0 : Int)]) = addGo (List.take L.length (List.drop (0 : Nat) L) ++ [v]).reverse [])) ∧ Lf ((x_5 + (1 : Int)).toNat < (x_2.fst + (1 : Int)).toNat)) ∧ ((!x_3) = false → ∀ (x_4 : Int), x_4 = IntKind.i64.wrap (x_2.fst - (1 : Int)) → (((((List.take L.length (List.drop (0 : Nat) L) ++ [v]).length = (List.take L.length (List.drop (0 : Nat) L) ++ [v]).length ∧ x = x) ∧ (x_2.snd.fst.length = x_2.snd.fst.length ∧ x_2.snd.snd = x_2.snd.2) ∧ x_4 = x_4 ∧ True) ∧ List.take L.length (List.drop (0 : Nat) L) ++ [v] = List.take L.length (List.drop (0 : Nat) L) ++ [v] ∧ x_2.snd.fst = x_2.snd.fst ∧ True) ∧ Lf ((-1 : Int) ≤ x_4 ∧ x_4 < (↑(List.take L.length (List.drop (0 : Nat) L) ++ [v]).length : Int) ∧ x_2.snd.fst.length ≤ (256 : Nat) ∧ addGo (List.take (x_4 + (1 : Int)).toNat (List.take L.length (List.drop (0 : Nat) L) ++ [v])).reverse x_2.snd.fst = addGo (List.take L.length (List.drop (0 : Nat) L) ++ [v]).reverse [])) ∧ Lf ((x_4 + (1 : Int)).toNat < (x_2.fst + (1 : Int)).toNat))) ∧ (¬(↑x_2.snd.fst.length : Int) < (256 : Int) → x_2.snd.fst.reverse = addF L v ∧ True)) ∧ (¬(0 : Int) ≤ x_2.fst → x_2.snd.fst.reverse = addF L v ∧ True)) (by kernel_rfl) (by
  simp only [List.drop_zero, List.take_length]
  have hA : (L ++ [v]).length = L.length + 1 := by simp
  have hF : addF L v = (addGo (L ++ [v]).reverse []).reverse := rfl
  rw [hF]
  generalize L ++ [v] = A at *
  refine ⟨⟨by omega⟩, ⟨by omega⟩, fun c1 _ => ⟨⟨by omega⟩, fun c2 _ k hk c3 _ => ⟨⟨by simp, ⟨?_⟩⟩, ?_⟩⟩⟩
  · have hk2 : k = (A.length : Int) - 1 := by subst hk; simp only [IntKind.wrap_i64]; omega
    have hs : (k + 1).toNat = A.length := by omega
    exact ⟨by omega, by omega, by simp, by rw [hs, List.take_length]⟩
  rintro ⟨i, acc, cc⟩ ⟨i0, i1, ha, hi⟩
  dsimp only at *
  refine ⟨fun hz => ⟨fun hlt => ⟨⟨by omega⟩, ⟨by omega⟩, fun b hb => ⟨fun hn => ?_, fun hn => ?_⟩⟩, fun hge => ?_⟩, fun hz => ?_⟩
  · simp at hn
    rw [take_rev hz (by omega)] at hi
    simp only [addGo] at hi
    rw [if_pos (by omega), ← hb, hn, if_neg (by decide)] at hi
    refine ⟨⟨by omega⟩, ⟨by omega⟩, ⟨by simp; omega⟩, fun c4 _ j hj => ⟨⟨by simp, ⟨?_⟩⟩, ⟨?_⟩⟩⟩
    · have hj2 : j = i - 1 := by subst hj; simp only [IntKind.wrap_i64]; omega
      subst hj2
      have hs : (i - 1 + 1).toNat = i.toNat := by omega
      exact ⟨by omega, by omega, by simp; omega, by rw [hs]; exact hi⟩
    · have hj2 : j = i - 1 := by subst hj; simp only [IntKind.wrap_i64]; omega
      omega
  · simp at hn
    rw [take_rev hz (by omega)] at hi
    simp only [addGo] at hi
    rw [if_pos (by omega), ← hb, hn, if_pos rfl] at hi
    intro j hj
    have hj2 : j = i - 1 := by subst hj; simp only [IntKind.wrap_i64]; omega
    subst hj2
    have hs : (i - 1 + 1).toNat = i.toNat := by omega
    refine ⟨⟨by simp, ⟨by omega, by omega, by omega, by rw [hs]; exact hi⟩⟩, ⟨by omega⟩⟩
  · rw [add_stop hge] at hi
    rw [← hi]
    exact ⟨by first | rfl | trivial, trivial⟩
  · have hs : (i + 1).toNat = 0 := by omega
    rw [hs] at hi
    have hi' : acc = addGo A.reverse [] := by simpa [addGo] using hi
    rw [← hi']
    exact ⟨by first | rfl | trivial, trivial⟩)
set_option maxRecDepth 100000 in
set_option maxHeartbeats 8000000 in
theorem add12_vc (v : Int) (L : List Int) (c : Nat) (hl : L.length ≤ 900) : addC.vc Try.prog (envL envA3) addRCtl Try.f12 [.I v] [⟨L, c⟩] := of_eq (b := ∀ (x : Int), x = IntKind.i64.wrap ((↑L.length : Int) - (1 : Int)) → ∀ (c_1 : Nat), [v].length ≤ c_1 → ((((((0 : Nat) = (0 : Nat) ∧ (0 : Nat) = (0 : Nat)) ∧ L.length = L.length ∧ c = c) ∧ v = v ∧ ([v].length = [v].length ∧ c_1 = c_1) ∧ x = x ∧ True) ∧ L = L ∧ [v] = [v] ∧ True) ∧ Lf ((-1 : Int) ≤ x ∧ x < (↑L.length : Int) ∧ [v].length ≤ (256 : Nat) ∧ refGo (List.take (x + (1 : Int)).toNat L).reverse [v] = refGo L.reverse [v])) ∧ ∀ (x : Int × List Int × Nat), (-1 : Int) ≤ x.fst ∧ x.fst < (↑L.length : Int) ∧ x.snd.fst.length ≤ (256 : Nat) ∧ refGo (List.take (x.fst + (1 : Int)).toNat L).reverse x.snd.fst = refGo L.reverse [v] → ((0 : Int) ≤ x.fst → ((↑x.snd.fst.length : Int) < (256 : Int) → Lf ((0 : Int) ≤ x.fst ∧ x.fst < (↑L.length : Int)) ∧ Lf ((0 : Nat) + x.fst.toNat < L.length) ∧ ∀ (x_1 : Bool), x_1 = hasF x.snd.fst (L.getD ((0 : Nat) + x.fst.toNat) (0 : Int)) → ((!x_1) = true → Lf ((0 : Int) ≤ x.fst ∧ x.fst < (↑L.length : Int)) ∧ Lf ((0 : Nat) + x.fst.toNat < L.length) ∧ Lf (([L.getD ((0 : Nat) + x.fst.toNat) (0 : Int)] ++ x.snd.fst).length * (2 : Nat) ≤ (140737488355328 : Nat)) ∧ ∀ (x_2 : Nat), ([L.getD ((0 : Nat) + x.fst.toNat) (0 : Int)] ++ x.snd.fst).length ≤ x_2 → ∀ (x_3 : Int), x_3 = IntKind.i64.wrap (x.fst - (1 : Int)) → ((((((0 : Nat) = (0 : Nat) ∧ (0 : Nat) = (0 : Nat)) ∧ L.length = L.length ∧ c = c) ∧ v = v ∧ (([L.getD ((0 : Nat) + x.fst.toNat) (0 : Int)] ++ x.snd.fst).length = ([L.getD ((0 : Nat) + x.fst.toNat) (0 : Int)] ++ x.snd.fst).length ∧ x_2 = x_2) ∧ x_3 = x_3 ∧ True) ∧ L = L ∧ [L.getD ((0 : Nat) + x.fst.toNat) (0 : Int)] ++ x.snd.fst = [L.getD ((0 : Nat) + x.fst.toNat) (0 : Int)] ++ x.snd.fst ∧ True) ∧ Lf ((-1 : Int) ≤ x_3 ∧ x_3 < (↑L.length : Int) ∧ ([L.getD ((0 : Nat) + x.fst.toNat) (0 : Int)] ++ x.snd.fst).length ≤ (256 : Nat) ∧ refGo (List.take (x_3 + (1 : Int)).toNat L).reverse ([L.getD ((0 : Nat) + x.fst.toNat) (0 : Int)] ++ x.snd.fst) = refGo L.reverse [v])) ∧ Lf ((x_3 + (1 : Int)).toNat < (x.fst + (1 : Int)).toNat)) ∧ ((!x_1) = false → ∀ (x_2 : Int), x_2 = IntKind.i64.wrap (x.fst - (1 : Int)) → ((((((0 : Nat) = (0 : Nat) ∧ (0 : Nat) = (0 : Nat)) ∧ L.length = L.length ∧ c = c) ∧ v = v ∧ (x.snd.fst.length = x.snd.fst.length ∧ x.snd.snd = x.snd.2) ∧ x_2 = x_2 ∧ True) ∧ L = L ∧ x.snd.fst = x.snd.fst ∧ True) ∧ Lf ((-1 : Int) ≤ x_2 ∧ x_2 < (↑L.length : Int) ∧ x.snd.fst.length ≤ (256 : Nat) ∧ refGo (List.take (x_2 + (1 : Int)).toNat L).reverse x.snd.fst = refGo L.reverse [v])) ∧ Lf ((x_2 + (1 : Int)).toNat < (x.fst + (1 : Int)).toNat))) ∧ (¬(↑x.snd.fst.length : Int) < (256 : Int) → x.snd.fst = addF L v ∧ True)) ∧ (¬(0 : Int) ≤ x.fst → x.snd.fst = addF L v ∧ True)) (by kernel_rfl) (by
  rw [← ref_add L v]
  simp only [Nat.zero_add]
  refine fun k hk c1 _ => ⟨⟨by simp, ⟨?_⟩⟩, ?_⟩
  · have hk2 : k = (L.length : Int) - 1 := by subst hk; simp only [IntKind.wrap_i64]; omega
    have hs : (k + 1).toNat = L.length := by omega
    exact ⟨by omega, by omega, by simp, by rw [hs, List.take_length]⟩
  rintro ⟨i, acc, cc⟩ ⟨i0, i1, ha, hi⟩
  dsimp only at *
  refine ⟨fun hz => ⟨fun hlt => ⟨⟨by omega⟩, ⟨by omega⟩, fun b hb => ⟨fun hn => ?_, fun hn => ?_⟩⟩, fun hge => ?_⟩, fun hz => ?_⟩
  · simp at hn
    rw [take_rev hz (by omega)] at hi
    simp only [refGo] at hi
    rw [if_pos (by omega), ← hb, hn, if_neg (by decide)] at hi
    refine ⟨⟨by omega⟩, ⟨by omega⟩, ⟨by simp; omega⟩, fun c4 _ j hj => ⟨⟨by simp, ⟨?_⟩⟩, ⟨?_⟩⟩⟩
    · have hj2 : j = i - 1 := by subst hj; simp only [IntKind.wrap_i64]; omega
      subst hj2
      have hs : (i - 1 + 1).toNat = i.toNat := by omega
      exact ⟨by omega, by omega, by simp; omega, by rw [hs]; exact hi⟩
    · have hj2 : j = i - 1 := by subst hj; simp only [IntKind.wrap_i64]; omega
      omega
  · simp at hn
    rw [take_rev hz (by omega)] at hi
    simp only [refGo] at hi
    rw [if_pos (by omega), ← hb, hn, if_pos rfl] at hi
    intro j hj
    have hj2 : j = i - 1 := by subst hj; simp only [IntKind.wrap_i64]; omega
    subst hj2
    have hs : (i - 1 + 1).toNat = i.toNat := by omega
    refine ⟨⟨by simp, ⟨by omega, by omega, by omega, by rw [hs]; exact hi⟩⟩, ⟨by omega⟩⟩
  · rw [ref_stop hge] at hi
    rw [← hi]
    exact ⟨by first | rfl | trivial, trivial⟩
  · have hs : (i + 1).toNat = 0 := by omega
    rw [hs] at hi
    have hi' : acc = refGo L.reverse [v] := by simpa [refGo] using hi
    rw [← hi']
    exact ⟨by first | rfl | trivial, trivial⟩)
set_option maxRecDepth 100000 in
theorem fit9_ok : SpecOk Try.prog 9 fitsC.spec := fitsC.ok envA2_ok mixed (C := lpCtl 2 (fitAnn 11 [0, 1, 2, 9, 10])) Try.func9 rfl fun L R h hr hc hp => by
  obtain ⟨v, _, rfl, h0⟩ := fit_i h
  obtain rfl := fit_nil h0
  match R, hr with
  | [⟨l, c⟩, ⟨m, d⟩], _ =>
  have b1 := hc ⟨l, c⟩ (by simp)
  have b2 := hc ⟨m, d⟩ (by simp)
  exact fit9_vc v l c m d (Nat.le_trans b2.1 b2.2)
set_option maxRecDepth 100000 in
theorem fit14_ok : SpecOk Try.prog 14 fitsC.spec := fitsC.ok envA2_ok mixed (C := lpCtl 2 (fitAnn 7 [0, 1, 2])) Try.func14 rfl fun L R h hr hc hp => by
  obtain ⟨v, _, rfl, h0⟩ := fit_i h
  obtain rfl := fit_nil h0
  match R, hr with
  | [⟨l, c⟩, ⟨m, d⟩], _ =>
  have b1 := hc ⟨l, c⟩ (by simp)
  have b2 := hc ⟨m, d⟩ (by simp)
  exact fit14_vc v l c m d (Nat.le_trans b2.1 b2.2)
set_option maxRecDepth 100000 in
theorem same_ok : SpecOk Try.prog 11 sameC.spec := sameC.ok (envL_nil _) mixed (C := lpCtl 4 sameAnn) Try.func11 rfl fun L R h hr hc hp => by
  obtain rfl := fit_nil h
  match R, hr with
  | [⟨l, c⟩, ⟨m, d⟩], _ =>
  have b1 := hc ⟨l, c⟩ (by simp)
  have b2 := hc ⟨m, d⟩ (by simp)
  exact same_vc  l c m d (Nat.le_trans b1.1 b1.2)
set_option maxRecDepth 100000 in
theorem bet_ok : SpecOk Try.prog 16 betC.spec := betC.ok envA2_ok mixed (C := lpCtl 2 betAnn) Try.func16 rfl fun L R h hr hc hp => by
  obtain ⟨x, _, rfl, h0⟩ := fit_i h
  obtain ⟨y, _, rfl, h1⟩ := fit_i h0
  obtain rfl := fit_nil h1
  match R, hr with
  | [⟨l, c⟩, ⟨m, d⟩], _ =>
  have b1 := hc ⟨l, c⟩ (by simp)
  have b2 := hc ⟨m, d⟩ (by simp)
  exact bet_vc x y l c m d hp.1 hp.2 (Nat.le_trans b1.1 b1.2)
set_option maxRecDepth 100000 in
theorem add8_ok : SpecOk Try.prog 8 addC.spec := addC.ok envA3_ok mixed (C := addCtl) Try.func8 rfl fun L R h hr hc hp => by
  obtain ⟨v, _, rfl, h0⟩ := fit_i h
  obtain rfl := fit_nil h0
  obtain ⟨⟨l, c⟩, rfl⟩ := List.length_eq_one_iff.1 hr
  have b1 := hc ⟨l, c⟩ (List.mem_singleton.2 rfl)
  exact add8_vc v l c hp
set_option maxRecDepth 100000 in
theorem add12_ok : SpecOk Try.prog 12 addC.spec := addC.ok envA3_ok mixed (C := addRCtl) Try.func12 rfl fun L R h hr hc hp => by
  obtain ⟨v, _, rfl, h0⟩ := fit_i h
  obtain rfl := fit_nil h0
  obtain ⟨⟨l, c⟩, rfl⟩ := List.length_eq_one_iff.1 hr
  have b1 := hc ⟨l, c⟩ (List.mem_singleton.2 rfl)
  exact add12_vc v l c hp
end Go.Proofs.Ytpbcnhkdknmgjaa.Sx
