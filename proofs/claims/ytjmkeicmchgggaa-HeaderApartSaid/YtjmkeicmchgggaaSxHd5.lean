/- Headers: the contracts hold; what the document tells; the laws. No condition. -/
import Derived.Test.YtjmkeicmchgggaaSxHd4
import Derived.Test.YtjmkeicmchgggaaHd2
namespace Go.Proofs.Ytjmkeicmchgggaa.Sx
open Go Go.RowKit
set_option linter.unusedVariables false
set_option linter.unusedSimpArgs false
def envH0 : List (FuncId × Spec) := [(19, uC.spec)]
def okC : Con1 := { pat := [], out := fun _ _ => .ret [c1B true] }
def envH2 : List (FuncId × Spec) := [(8, parseC.spec), (9, bytesC.spec), (10, parseC.spec), (11, sameC.spec), (12, bytesC.spec)]
def envH3 : List (FuncId × Spec) := (7, okC.spec) :: envH2
def saysC : Con1 := { pat := [.v (.i .u64), .v (.i .u64), .r .u8], out := fun _ _ => .ret [c1B true] }
def backC : Con1 := { pat := [.v (.i .u64), .v (.i .u64), .r .u8, .v (.i .u8)], out := fun _ _ => .ret [c1B true] }
def apartC : Con1 := { pat := [.v (.i .u64), .v (.i .u64), .v (.i .u64), .v (.i .u64), .r .u8], out := fun _ _ => .ret [c1B true] }
set_option maxRecDepth 100000 in
theorem size_ok : SpecOk Try.prog 13 sizeC.spec := sizeC.ok (envL_nil _) mixed (C := noCtl) Try.func13 rfl fun L R h hr hc hp => by
  obtain ⟨x, _, rfl, h0⟩ := fit_i h
  obtain rfl := fit_nil h0
  obtain rfl : R = [] := List.eq_nil_of_length_eq_zero hr
  exact size_vc x hp.1 hp.2
set_option maxRecDepth 100000 in
theorem long_ok : SpecOk Try.prog 16 sizeC.spec := sizeC.ok (envL_nil _) mixed (C := noCtl) Try.func16 rfl fun L R h hr hc hp => by
  obtain ⟨x, _, rfl, h0⟩ := fit_i h
  obtain rfl := fit_nil h0
  obtain rfl : R = [] := List.eq_nil_of_length_eq_zero hr
  exact long_vc x hp.1 hp.2
set_option maxRecDepth 100000 in
theorem num_ok : SpecOk Try.prog 14 numC.spec := numC.ok (envL_nil _) mixed (C := numCtl) Try.func14 rfl fun L R h hr hc hp => by
  obtain ⟨x, _, rfl, h0⟩ := fit_i h
  obtain rfl := fit_nil h0
  obtain ⟨⟨l, c⟩, rfl⟩ := List.length_eq_one_iff.1 hr
  exact num_vc x l c hp.1.1 hp.1.2 hp.2.1 hp.2.2
set_option maxRecDepth 100000 in
theorem val_ok : SpecOk Try.prog 17 numC.spec := numC.ok (envL_nil _) mixed (C := valCtl) Try.func17 rfl fun L R h hr hc hp => by
  obtain ⟨x, _, rfl, h0⟩ := fit_i h
  obtain rfl := fit_nil h0
  obtain ⟨⟨l, c⟩, rfl⟩ := List.length_eq_one_iff.1 hr
  exact val_vc x l c hp.1.1 hp.1.2 hp.2.1 hp.2.2
set_option maxRecDepth 100000 in
theorem fieldH_ok : SpecOk Try.prog 15 fieldC.spec := fieldC.ok (envL_nil _) mixed (C := fieldCtl) Try.func15 rfl fun L R h hr hc hp => by
  obtain ⟨x, _, rfl, h0⟩ := fit_i h
  obtain rfl := fit_nil h0
  obtain rfl : R = [] := List.eq_nil_of_length_eq_zero hr
  exact field_vc x hp.1 hp.2
set_option maxRecDepth 100000 in
theorem u_ok : SpecOk Try.prog 19 uC.spec := uC.ok (envL_nil _) mixed (C := uCtl) Try.func19 rfl fun L R h hr hc hp => by
  obtain ⟨v, _, rfl, h0⟩ := fit_i h
  obtain ⟨n, _, rfl, h1⟩ := fit_i h0
  obtain rfl := fit_nil h1
  obtain ⟨⟨l, c⟩, rfl⟩ := List.length_eq_one_iff.1 hr
  exact u_vc v n l c hp.1.1 hp.1.2 hp.2.1.1 hp.2.1.2 hp.2.2
set_option maxRecDepth 100000 in
theorem same_ok : SpecOk Try.prog 11 sameC.spec := sameC.ok (envL_nil _) mixed (C := noCtl) Try.func11 rfl fun L R h hr hc hp => by
  obtain rfl := fit_nil h
  match R, hr with
  | [⟨l, c⟩, ⟨m, d⟩], _ =>
    exact same_vc  l m c d hp.1 hp.2
theorem envH0_ok : EnvOk Try.prog (envL envH0) := envL_cons ⟨_, Try.func19, rfl, by kernel_rfl⟩ u_ok (envL_nil _)
set_option maxRecDepth 100000 in
theorem fieldR_ok : SpecOk Try.prog 18 fieldC.spec := fieldC.ok envH0_ok mixed (C := fieldRCtl) Try.func18 rfl fun L R h hr hc hp => by
  obtain ⟨x, _, rfl, h0⟩ := fit_i h
  obtain rfl := fit_nil h0
  obtain rfl : R = [] := List.eq_nil_of_length_eq_zero hr
  exact fieldR_vc x hp.1 hp.2
theorem envH1_ok : EnvOk Try.prog (envL envH1) := envL_cons ⟨_, Try.func13, rfl, by kernel_rfl⟩ size_ok (envL_cons ⟨_, Try.func14, rfl, by kernel_rfl⟩ num_ok (envL_cons ⟨_, Try.func15, rfl, by kernel_rfl⟩ fieldH_ok (envL_cons ⟨_, Try.func16, rfl, by kernel_rfl⟩ long_ok (envL_cons ⟨_, Try.func17, rfl, by kernel_rfl⟩ val_ok (envL_cons ⟨_, Try.func18, rfl, by kernel_rfl⟩ fieldR_ok (envL_cons ⟨_, Try.func19, rfl, by kernel_rfl⟩ u_ok (envL_nil _)))))))
set_option maxRecDepth 100000 in
theorem bytes_ok : SpecOk Try.prog 9 bytesC.spec := bytesC.ok envH1_ok mixed (C := noCtl) Try.func9 rfl fun L R h hr hc hp => by
  obtain ⟨x, _, rfl, h0⟩ := fit_i h
  obtain ⟨y, _, rfl, h1⟩ := fit_i h0
  obtain rfl := fit_nil h1
  obtain rfl : R = [] := List.eq_nil_of_length_eq_zero hr
  exact bytes_vc x y hp.1.1 hp.1.2 hp.2.1 hp.2.2
set_option maxRecDepth 100000 in
theorem header_ok : SpecOk Try.prog 12 bytesC.spec := bytesC.ok envH1_ok mixed (C := noCtl) Try.func12 rfl fun L R h hr hc hp => by
  obtain ⟨x, _, rfl, h0⟩ := fit_i h
  obtain ⟨y, _, rfl, h1⟩ := fit_i h0
  obtain rfl := fit_nil h1
  obtain rfl : R = [] := List.eq_nil_of_length_eq_zero hr
  exact header_vc x y hp.1.1 hp.1.2 hp.2.1 hp.2.2
set_option maxRecDepth 100000 in
theorem parse_ok : SpecOk Try.prog 8 parseC.spec := parseC.ok envH1_ok mixed (C := noCtl) Try.func8 rfl fun L R h hr hc hp => by
  obtain rfl := fit_nil h
  obtain ⟨⟨l, c⟩, rfl⟩ := List.length_eq_one_iff.1 hr
  exact parse_vc  l c hp (hc ⟨l, c⟩ (List.mem_singleton.2 rfl)).1
set_option maxRecDepth 100000 in
theorem parseR_ok : SpecOk Try.prog 10 parseC.spec := parseC.ok envH1_ok mixed (C := noCtl) Try.func10 rfl fun L R h hr hc hp => by
  obtain rfl := fit_nil h
  obtain ⟨⟨l, c⟩, rfl⟩ := List.length_eq_one_iff.1 hr
  exact parseR_vc  l c hp (hc ⟨l, c⟩ (List.mem_singleton.2 rfl)).1
theorem envH2_ok : EnvOk Try.prog (envL envH2) := envL_cons ⟨_, Try.func8, rfl, by kernel_rfl⟩ parse_ok (envL_cons ⟨_, Try.func9, rfl, by kernel_rfl⟩ bytes_ok (envL_cons ⟨_, Try.func10, rfl, by kernel_rfl⟩ parseR_ok (envL_cons ⟨_, Try.func11, rfl, by kernel_rfl⟩ same_ok (envL_cons ⟨_, Try.func12, rfl, by kernel_rfl⟩ header_ok (envL_nil _)))))

theorem b3 {P : Prop} {x y : Int} (h : x = y) (g : P) : (x = y → P ∧ True) ∧ (¬x = y → false = true ∧ True) := ⟨fun _ => ⟨g, trivial⟩, fun n => absurd h n⟩
set_option maxRecDepth 100000 in
theorem awakeH_vc : okC.vc Try.prog (envL envH2) noCtl Try.f7 [] [] := of_eq (b := Lf (((0 : Int) ≤ (8 : Int) ∧ (8 : Int) < (18446744073709551616 : Int)) ∧ (0 : Int) ≤ (300 : Int) ∧ (300 : Int) < (18446744073709551616 : Int)) ∧ ∀ (x : Nat), (4 : Nat) ≤ x → ((4 : Int) = (4 : Int) → Lf ((0 : Int) ≤ (0 : Int) ∧ (0 : Int) < (4 : Int)) ∧ Lf ((0 : Nat) < (4 : Nat)) ∧ ((137 : Int) = (137 : Int) → Lf ((0 : Int) ≤ (1 : Int) ∧ (1 : Int) < (4 : Int)) ∧ Lf ((1 : Nat) < (4 : Nat)) ∧ ((8 : Int) = (8 : Int) → Lf ((0 : Int) ≤ (2 : Int) ∧ (2 : Int) < (4 : Int)) ∧ Lf ((2 : Nat) < (4 : Nat)) ∧ ((1 : Int) = (1 : Int) → Lf ((0 : Int) ≤ (3 : Int) ∧ (3 : Int) < (4 : Int)) ∧ Lf ((3 : Nat) < (4 : Nat)) ∧ ((44 : Int) = (44 : Int) → true = true ∧ True) ∧ (¬(44 : Int) = (44 : Int) → false = true ∧ True)) ∧ (¬(1 : Int) = (1 : Int) → false = true ∧ True)) ∧ (¬(8 : Int) = (8 : Int) → false = true ∧ True)) ∧ (¬(137 : Int) = (137 : Int) → false = true ∧ True)) ∧ (¬(4 : Int) = (4 : Int) → false = true ∧ True)) (by kernel_rfl) (by
  refine ⟨⟨by decide⟩, fun x hx => ?_⟩
  repeat' (first | apply And.intro | apply Lf.mk | intro _)
  all_goals first | trivial | omega)
set_option maxRecDepth 100000 in
theorem awakeH_ok : SpecOk Try.prog 7 okC.spec := okC.ok envH2_ok mixed (C := noCtl) Try.func7 rfl fun L R h hr hc hp => by
  obtain rfl := fit_nil h
  obtain rfl : R = [] := List.eq_nil_of_length_eq_zero hr
  exact awakeH_vc  
theorem envH3_ok : EnvOk Try.prog (envL envH3) := envL_cons ⟨_, Try.func7, rfl, by kernel_rfl⟩ awakeH_ok envH2_ok

instance (L : List Int) : Decidable (Byt L) := by unfold Byt; infer_instance
set_option maxRecDepth 100000 in
theorem knownH_vc : okC.vc Try.prog (envL envH3) noCtl Try.f3 [] [] := of_eq (b := (false = true → false = true ∧ True) ∧ (false = false → Lf (Byt []) ∧ ∀ (x : Int × Int × Int × Int), x = parseF [] → Lf (Byt [(137 : Int), (8 : Int), (1 : Int)]) ∧ ∀ (x_1 : Int × Int × Int × Int), x_1 = parseF [(137 : Int), (8 : Int), (1 : Int)] → Lf (Byt [(128 : Int), (7 : Int)]) ∧ ∀ (x_2 : Int × Int × Int × Int), x_2 = parseF [(128 : Int), (7 : Int)] → Lf (Byt [(9 : Int), (0 : Int), (9 : Int)]) ∧ ∀ (x_3 : Int × Int × Int × Int), x_3 = parseF [(9 : Int), (0 : Int), (9 : Int)] → Lf (Byt [(128 : Int)]) ∧ ∀ (x_4 : Int × Int × Int × Int), x_4 = parseF [(128 : Int)] → Lf (Byt [(112 : Int), (9 : Int)]) ∧ ∀ (x_5 : Int × Int × Int × Int), x_5 = parseF [(112 : Int), (9 : Int)] → Lf (((0 : Int) ≤ (18446744073709551615 : Int) ∧ (18446744073709551615 : Int) < (18446744073709551616 : Int)) ∧ (0 : Int) ≤ (18446744073709551615 : Int) ∧ (18446744073709551615 : Int) < (18446744073709551616 : Int)) ∧ ∀ (x_6 : Nat), (17 : Nat) ≤ x_6 → Lf (Byt (bytesF (18446744073709551615 : Int) (18446744073709551615 : Int))) ∧ ∀ (x_7 : Int × Int × Int × Int), x_7 = parseF (bytesF (18446744073709551615 : Int) (18446744073709551615 : Int)) → (x.snd.snd.snd = (3 : Int) → (x_1.snd.snd.snd = (3 : Int) → (x_2.snd.snd.snd = (2 : Int) → (x_3.snd.snd.snd = (2 : Int) → (x_4.snd.snd.snd = (3 : Int) → (x_5.snd.snd.snd = (0 : Int) → (x_5.fst = (7 : Int) → (x_5.snd.fst = (0 : Int) → (x_5.snd.snd.fst = (1 : Int) → ((17 : Int) = (17 : Int) → Lf ((0 : Int) ≤ (0 : Int) ∧ (0 : Int) < (17 : Int)) ∧ Lf ((0 : Nat) < (17 : Nat)) ∧ ((255 : Int) = (255 : Int) → (x_7.snd.snd.snd = (0 : Int) → (x_7.fst = (18446744073709551615 : Int) → (x_7.snd.fst = (18446744073709551615 : Int) → (x_7.snd.snd.fst = (17 : Int) → true = true ∧ True) ∧ (¬x_7.snd.snd.fst = (17 : Int) → false = true ∧ True)) ∧ (¬x_7.snd.fst = (18446744073709551615 : Int) → false = true ∧ True)) ∧ (¬x_7.fst = (18446744073709551615 : Int) → false = true ∧ True)) ∧ (¬x_7.snd.snd.snd = (0 : Int) → false = true ∧ True)) ∧ (¬(255 : Int) = (255 : Int) → false = true ∧ True)) ∧ (¬(17 : Int) = (17 : Int) → false = true ∧ True)) ∧ (¬x_5.snd.snd.fst = (1 : Int) → false = true ∧ True)) ∧ (¬x_5.snd.fst = (0 : Int) → false = true ∧ True)) ∧ (¬x_5.fst = (7 : Int) → false = true ∧ True)) ∧ (¬x_5.snd.snd.snd = (0 : Int) → false = true ∧ True)) ∧ (¬x_4.snd.snd.snd = (3 : Int) → false = true ∧ True)) ∧ (¬x_3.snd.snd.snd = (2 : Int) → false = true ∧ True)) ∧ (¬x_2.snd.snd.snd = (2 : Int) → false = true ∧ True)) ∧ (¬x_1.snd.snd.snd = (3 : Int) → false = true ∧ True)) ∧ (¬x.snd.snd.snd = (3 : Int) → false = true ∧ True))) (by kernel_rfl) (by
  refine ⟨fun h => (by cases h), fun _ => ⟨⟨by decide⟩, fun x0 e0 => ⟨⟨by decide⟩, fun x1 e1 => ⟨⟨by decide⟩, fun x2 e2 => ⟨⟨by decide⟩, fun x3 e3 => ⟨⟨by decide⟩, fun x4 e4 => ⟨⟨by decide⟩, fun x5 e5 => ⟨⟨by decide⟩, fun x6 _ => ⟨⟨by decide +kernel⟩, fun x7 e7 => ?_⟩⟩⟩⟩⟩⟩⟩⟩⟩
  have f0 : x0 = (0, 0, 0, 3) := by rw [e0]; decide +kernel
  have f1 : x1 = (0, 0, 0, 3) := by rw [e1]; decide +kernel
  have f2 : x2 = (0, 0, 0, 2) := by rw [e2]; decide +kernel
  have f3 : x3 = (0, 0, 0, 2) := by rw [e3]; decide +kernel
  have f4 : x4 = (0, 0, 0, 3) := by rw [e4]; decide +kernel
  have f5 : x5 = (7, 0, 1, 0) := by rw [e5]; decide +kernel
  have f7 : x7 = (18446744073709551615, 18446744073709551615, 17, 0) := by rw [e7]; decide +kernel
  subst f0; subst f1; subst f2; subst f3; subst f4; subst f5; subst f7
  clear e0 e1 e2 e3 e4 e5 e7
  repeat' (first | apply And.intro | apply Lf.mk | intro _)
  all_goals first | trivial | omega | (exfalso; simp_all; done))
set_option maxRecDepth 100000 in
theorem saysH_vc (x y : Int) (L : List Int) (c : Nat) (x0 : 0 ≤ x) (x1 : x < 18446744073709551616) (y0 : 0 ≤ y) (y1 : y < 18446744073709551616) (hL : Byt L) : saysC.vc Try.prog (envL envH3) noCtl Try.f4 [.I x, .I y] [⟨L, c⟩] := of_eq (b := (false = true → false = true ∧ True) ∧ (false = false → Lf ((0 : Nat) + L.length ≤ L.length) ∧ Lf (Byt (List.take L.length (List.drop (0 : Nat) L))) ∧ ∀ (x_1 : Int × Int × Int × Int), x_1 = parseF (List.take L.length (List.drop (0 : Nat) L)) → Lf ((0 : Nat) + L.length ≤ L.length) ∧ Lf (Byt (List.take L.length (List.drop (0 : Nat) L))) ∧ ∀ (x_2 : Int × Int × Int × Int), x_2 = parseF (List.take L.length (List.drop (0 : Nat) L)) → Lf (((0 : Int) ≤ x ∧ x < (18446744073709551616 : Int)) ∧ (0 : Int) ≤ y ∧ y < (18446744073709551616 : Int)) ∧ ∀ (x_3 : Nat), (bytesF x y).length ≤ x_3 → Lf (((0 : Int) ≤ x ∧ x < (18446744073709551616 : Int)) ∧ (0 : Int) ≤ y ∧ y < (18446744073709551616 : Int)) ∧ ∀ (x_4 : Nat), (bytesF x y).length ≤ x_4 → Lf (Byt (bytesF x y) ∧ Byt (bytesF x y)) ∧ ∀ (x_5 : Bool), x_5 = decide (bytesF x y = bytesF x y) → (x_5 = true → (x_1.fst = x_2.fst → (x_1.snd.fst = x_2.snd.fst → (x_1.snd.snd.fst = x_2.snd.snd.fst → (x_1.snd.snd.snd = x_2.snd.snd.snd → true = true ∧ True) ∧ (¬x_1.snd.snd.snd = x_2.snd.snd.snd → false = true ∧ True)) ∧ (¬x_1.snd.snd.fst = x_2.snd.snd.fst → false = true ∧ True)) ∧ (¬x_1.snd.fst = x_2.snd.fst → false = true ∧ True)) ∧ (¬x_1.fst = x_2.fst → false = true ∧ True)) ∧ (x_5 = false → false = true ∧ True))) (by kernel_rfl) (by
  refine ⟨fun h => (by cases h), fun _ => ⟨⟨by omega⟩, ⟨by simpa using hL⟩, fun p hp => ⟨⟨by omega⟩, ⟨by simpa using hL⟩, fun q hq => ⟨⟨⟨x0, x1⟩, y0, y1⟩, fun c1 _ => ⟨⟨⟨x0, x1⟩, y0, y1⟩, fun c2 _ => ⟨⟨bytes_byt x0 y0, bytes_byt x0 y0⟩, fun z hz => ?_⟩⟩⟩⟩⟩⟩
  have e : p = q := hp.trans hq.symm
  subst e
  simp only [decide_true] at hz
  subst hz
  simp)
set_option maxRecDepth 100000 in
theorem backH_vc (x y z : Int) (L : List Int) (c : Nat) (x0 : 0 ≤ x) (x1 : x < 18446744073709551616) (y0 : 0 ≤ y) (y1 : y < 18446744073709551616) (z0 : 0 ≤ z) (z1 : z < 256) (hL : Byt L) (hm : L.length ≤ 140737488351232) : backC.vc Try.prog (envL envH3) noCtl Try.f5 [.I x, .I y, .I z] [⟨L, c⟩] := of_eq (b := (false = true → false = true ∧ True) ∧ (false = false → Lf (((0 : Int) ≤ x ∧ x < (18446744073709551616 : Int)) ∧ (0 : Int) ≤ y ∧ y < (18446744073709551616 : Int)) ∧ ∀ (x_1 : Nat), (bytesF x y).length ≤ x_1 → ((↑(bytesF x y).length : Int) = (0 : Int) → false = true ∧ True) ∧ (¬(↑(bytesF x y).length : Int) = (0 : Int) → Lf ((([] : List Int) ++ bytesF x y).length * (1 : Nat) ≤ (140737488355328 : Nat)) ∧ ∀ (x_2 : Nat), (([] : List Int) ++ bytesF x y).length ≤ x_2 → Lf ((0 : Nat) + L.length ≤ L.length) ∧ Lf ((([] : List Int) ++ bytesF x y ++ List.take L.length (List.drop (0 : Nat) L)).length * (1 : Nat) ≤ (140737488355328 : Nat)) ∧ ∀ (x_3 : Nat), (([] : List Int) ++ bytesF x y ++ List.take L.length (List.drop (0 : Nat) L)).length ≤ x_3 → Lf (Byt (([] : List Int) ++ bytesF x y ++ List.take L.length (List.drop (0 : Nat) L))) ∧ ∀ (x_4 : Int × Int × Int × Int), x_4 = parseF (([] : List Int) ++ bytesF x y ++ List.take L.length (List.drop (0 : Nat) L)) → ∀ (x_5 : Int), x_5 = IntKind.i64.wrap z → Lf ((↑(bytesF x y).length : Int) ≠ (0 : Int)) ∧ ∀ (x_6 : Int), x_6 = x_5.tmod (↑(bytesF x y).length : Int) → Lf ((0 : Int) ≤ x_6 ∧ x_6 ≤ (↑x_1 : Int)) ∧ Lf ((0 : Nat) + (x_6.toNat - (0 : Nat)) ≤ (bytesF x y).length) ∧ Lf (Byt (List.take (x_6.toNat - (0 : Nat)) (List.drop (0 : Nat) (bytesF x y)))) ∧ ∀ (x_7 : Int × Int × Int × Int), x_7 = parseF (List.take (x_6.toNat - (0 : Nat)) (List.drop (0 : Nat) (bytesF x y))) → (x_4.snd.snd.snd = (0 : Int) → (x_4.fst = x → (x_4.snd.fst = y → (x_4.snd.snd.fst = (↑(bytesF x y).length : Int) → (x_7.snd.snd.snd = (3 : Int) → true = true ∧ True) ∧ (¬x_7.snd.snd.snd = (3 : Int) → false = true ∧ True)) ∧ (¬x_4.snd.snd.fst = (↑(bytesF x y).length : Int) → false = true ∧ True)) ∧ (¬x_4.snd.fst = y → false = true ∧ True)) ∧ (¬x_4.fst = x → false = true ∧ True)) ∧ (¬x_4.snd.snd.snd = (0 : Int) → false = true ∧ True)))) (by kernel_rfl) (by
  obtain ⟨bl, bl2⟩ := bytes_len x0 y0
  simp only [List.nil_append, List.drop_zero, List.take_length, Nat.sub_zero]
  refine ⟨fun h => (by cases h), fun _ => ⟨⟨⟨x0, x1⟩, y0, y1⟩, fun c1 h1 => ⟨fun h => (by omega), fun _ => ⟨⟨by omega⟩, fun c2 _ => ⟨⟨by omega⟩, ⟨by rw [List.length_append]; omega⟩, fun c3 _ => ⟨⟨byt_append (bytes_byt x0 y0) hL⟩, fun p hp a ha => ⟨⟨by omega⟩, fun b hb => ?_⟩⟩⟩⟩⟩⟩⟩
  have ha2 : a = z := by subst ha; simp only [IntKind.wrap_i64]; omega
  subst ha2
  clear ha
  have hb2 : b = a % ((bytesF x y).length : Int) := by rw [hb, Int.tmod_eq_emod_of_nonneg z0]
  clear hb
  have hpos : (0 : Int) < ((bytesF x y).length : Int) := by omega
  have b0 : 0 ≤ b := by rw [hb2]; exact Int.emod_nonneg _ (by omega)
  have b1 : b < ((bytesF x y).length : Int) := by rw [hb2]; exact Int.emod_lt_of_pos _ hpos
  have pb := parse_back x0 x1 y0 y1 L
  rw [pb] at hp
  subst hp
  refine ⟨⟨by omega⟩, ⟨by omega⟩, ⟨byt_take (bytes_byt x0 y0) _⟩, fun q hq => ?_⟩
  have pc := parse_cut x0 y0 (n := b.toNat) (by omega)
  rw [← hq] at pc
  simp [pc])
end Go.Proofs.Ytjmkeicmchgggaa.Sx
