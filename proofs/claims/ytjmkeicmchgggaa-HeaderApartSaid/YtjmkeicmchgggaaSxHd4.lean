/- Headers: what is read of bytes, as a contract. No condition. -/
import Derived.Test.YtjmkeicmchgggaaSxHd3
namespace Go.Proofs.Ytjmkeicmchgggaa.Sx
open Go Go.RowKit
set_option linter.unusedVariables false
set_option linter.unusedSimpArgs false
theorem p_none {L : List Int} (h : L.length = 0) : parseF L = (0, 0, 0, 3) := by simp [parseF, h]
theorem p_short {L : List Int} (h : ¬L.length = 0) (h2 : (L.length : Int) < 1 + sizeF (L.getD 0 0 / 16) + sizeF (L.getD 0 0 % 16)) : parseF L = (0, 0, 0, 3) := by
  unfold parseF; rw [if_neg h, if_pos h2]
theorem p_form {L : List Int} (h : ¬L.length = 0) (h2 : ¬(L.length : Int) < 1 + sizeF (L.getD 0 0 / 16) + sizeF (L.getD 0 0 % 16)) {p q : Int × Bool} (hp : p = numF (L.getD 0 0 / 16) ((L.drop 1).take (sizeF (L.getD 0 0 / 16)).toNat)) (hq : q = numF (L.getD 0 0 % 16) ((L.drop (1 + (sizeF (L.getD 0 0 / 16)).toNat)).take (sizeF (L.getD 0 0 % 16)).toNat)) (hn : (p.2 && q.2) = false) : parseF L = (0, 0, 0, 2) := by
  unfold parseF; rw [if_neg h, if_neg h2, ← hp, ← hq, hn]; rfl
theorem p_ok {L : List Int} (h : ¬L.length = 0) (h2 : ¬(L.length : Int) < 1 + sizeF (L.getD 0 0 / 16) + sizeF (L.getD 0 0 % 16)) {p q : Int × Bool} (hp : p = numF (L.getD 0 0 / 16) ((L.drop 1).take (sizeF (L.getD 0 0 / 16)).toNat)) (hq : q = numF (L.getD 0 0 % 16) ((L.drop (1 + (sizeF (L.getD 0 0 / 16)).toNat)).take (sizeF (L.getD 0 0 % 16)).toNat)) (hn : (p.2 && q.2) = true) : parseF L = (p.1, q.1, 1 + sizeF (L.getD 0 0 / 16) + sizeF (L.getD 0 0 % 16), 0) := by
  unfold parseF; rw [if_neg h, if_neg h2, ← hp, ← hq, hn]; rfl
theorem byt_15 {L : List Int} (hL : Byt L) : bits .and .u8 (L.getD 0 0) 15 = L.getD 0 0 % 16 := by
  obtain ⟨h0, h1⟩ := byt_getD hL 0
  obtain ⟨k, hk⟩ := fin_of (n := 256) h0 h1
  rw [hk]; exact and_15 k

set_option maxRecDepth 100000 in
set_option maxHeartbeats 8000000 in
theorem parse_vc (L : List Int) (c : Nat) (hL : Byt L) (hc : L.length ≤ c) : parseC.vc Try.prog (envL envH1) noCtl Try.f8 [] [⟨L, c⟩] := of_eq (b := ((↑L.length : Int) = (0 : Int) → ∀ (y : Int × Int × Int × Int), y = parseF L → (0 : Int) = y.fst ∧ (0 : Int) = y.snd.fst ∧ (0 : Int) = y.snd.snd.fst ∧ (3 : Int) = y.snd.snd.snd ∧ True) ∧ (¬(↑L.length : Int) = (0 : Int) → Lf ((0 : Int) ≤ (0 : Int) ∧ (0 : Int) < (↑L.length : Int)) ∧ Lf ((0 : Nat) < L.length) ∧ ∀ (x : Int), x = L.getD (0 : Nat) (0 : Int) / (16 : Int) → Lf ((0 : Int) ≤ (0 : Int) ∧ (0 : Int) < (↑L.length : Int)) ∧ Lf ((0 : Nat) < L.length) ∧ ∀ (x_1 : Int), x_1 = bits BinOp.and IntKind.u8 (L.getD (0 : Nat) (0 : Int)) (15 : Int) → Lf ((0 : Int) ≤ x ∧ x < (16 : Int)) ∧ ∀ (x_2 : Int), x_2 = sizeF x → ∀ (x_3 : Int), x_3 = IntKind.i64.wrap ((1 : Int) + x_2) → Lf ((0 : Int) ≤ x_1 ∧ x_1 < (16 : Int)) ∧ ∀ (x_4 : Int), x_4 = sizeF x_1 → ∀ (x_5 : Int), x_5 = IntKind.i64.wrap (x_3 + x_4) → ((↑L.length : Int) < x_5 → ∀ (y : Int × Int × Int × Int), y = parseF L → (0 : Int) = y.fst ∧ (0 : Int) = y.snd.fst ∧ (0 : Int) = y.snd.snd.fst ∧ (3 : Int) = y.snd.snd.snd ∧ True) ∧ (¬(↑L.length : Int) < x_5 → Lf ((0 : Int) ≤ x_3 ∧ x_3 ≤ (↑c : Int)) ∧ Lf ((0 : Int) ≤ (1 : Int) ∧ (1 : Int) ≤ (↑x_3.toNat : Int)) ∧ Lf ((1 : Nat) + (x_3.toNat - (1 : Nat)) ≤ L.length) ∧ Lf (((0 : Int) ≤ x ∧ x < (16 : Int)) ∧ Byt (List.take (x_3.toNat - (1 : Nat)) (List.drop (1 : Nat) L)) ∧ (↑(List.take (x_3.toNat - (1 : Nat)) (List.drop (1 : Nat) L)).length : Int) = sizeF x) ∧ ∀ (x_6 : Int × Bool), x_6 = numF x (List.take (x_3.toNat - (1 : Nat)) (List.drop (1 : Nat) L)) → Lf ((0 : Int) ≤ x_5 ∧ x_5 ≤ (↑c : Int)) ∧ Lf ((0 : Int) ≤ x_3 ∧ x_3 ≤ (↑x_5.toNat : Int)) ∧ Lf ((0 : Nat) + x_3.toNat + (x_5.toNat - x_3.toNat) ≤ L.length) ∧ Lf (((0 : Int) ≤ x_1 ∧ x_1 < (16 : Int)) ∧ Byt (List.take (x_5.toNat - x_3.toNat) (List.drop ((0 : Nat) + x_3.toNat) L)) ∧ (↑(List.take (x_5.toNat - x_3.toNat) (List.drop ((0 : Nat) + x_3.toNat) L)).length : Int) = sizeF x_1) ∧ ∀ (x : Int × Bool), x = numF x_1 (List.take (x_5.toNat - x_3.toNat) (List.drop ((0 : Nat) + x_3.toNat) L)) → ((!x_6.snd) = true → ∀ (y : Int × Int × Int × Int), y = parseF L → (0 : Int) = y.fst ∧ (0 : Int) = y.snd.fst ∧ (0 : Int) = y.snd.snd.fst ∧ (2 : Int) = y.snd.snd.snd ∧ True) ∧ ((!x_6.snd) = false → ((!x.snd) = true → ∀ (y : Int × Int × Int × Int), y = parseF L → (0 : Int) = y.fst ∧ (0 : Int) = y.snd.fst ∧ (0 : Int) = y.snd.snd.fst ∧ (2 : Int) = y.snd.snd.snd ∧ True) ∧ ((!x.snd) = false → ∀ (y : Int × Int × Int × Int), y = parseF L → x_6.fst = y.fst ∧ x.fst = y.snd.fst ∧ x_5 = y.snd.snd.fst ∧ (0 : Int) = y.snd.snd.snd ∧ True))))) (by kernel_rfl) (by
  have hb := byt_getD hL 0
  rw [byt_15 hL]
  apply And.intro
  · intro h y hy
    have h0 : L.length = 0 := by omega
    rw [p_none h0] at hy
    subst hy
    exact ⟨rfl, rfl, rfl, rfl, trivial⟩
  · intro h
    have hne : ¬L.length = 0 := by omega
    have b1 := sz_bd (x := L.getD 0 0 / 16) (by omega) (by omega)
    have b2 := sz_bd (x := L.getD 0 0 % 16) (by omega) (by omega)
    refine ⟨⟨by omega⟩, ⟨by omega⟩, fun x hx => ⟨⟨by omega⟩, ⟨by omega⟩, fun z hz => ⟨⟨by omega⟩, fun s1 hs1 a1 ha1 => ⟨⟨by omega⟩, fun s2 hs2 a2 ha2 => ?_⟩⟩⟩⟩
    subst hx; subst hz; subst hs1; subst hs2
    have e1 : a1 = 1 + sizeF (L.getD 0 0 / 16) := by subst ha1; simp only [IntKind.wrap_i64]; omega
    have e2 : a2 = 1 + sizeF (L.getD 0 0 / 16) + sizeF (L.getD 0 0 % 16) := by subst ha2; rw [e1]; simp only [IntKind.wrap_i64]; omega
    clear ha1 ha2
    subst e1; subst e2
    apply And.intro
    · intro hlt y hy
      rw [p_short hne hlt] at hy
      subst hy
      exact ⟨rfl, rfl, rfl, rfl, trivial⟩
    · intro hge
      have t1 : (1 + sizeF (L.getD 0 0 / 16)).toNat - 1 = (sizeF (L.getD 0 0 / 16)).toNat := by omega
      have t2 : (1 + sizeF (L.getD 0 0 / 16) + sizeF (L.getD 0 0 % 16)).toNat - (1 + sizeF (L.getD 0 0 / 16)).toNat = (sizeF (L.getD 0 0 % 16)).toNat := by omega
      have t3 : 0 + (1 + sizeF (L.getD 0 0 / 16)).toNat = 1 + (sizeF (L.getD 0 0 / 16)).toNat := by omega
      rw [t1, t2, t3]
      refine ⟨⟨by omega⟩, ⟨by omega⟩, ⟨by omega⟩, ⟨⟨by omega, by omega⟩, byt_take (byt_drop hL _) _, by rw [List.length_take, List.length_drop]; omega⟩, fun p hp => ⟨⟨by omega⟩, ⟨by omega⟩, ⟨by omega⟩, ⟨⟨by omega, by omega⟩, byt_take (byt_drop hL _) _, by rw [List.length_take, List.length_drop]; omega⟩, fun q hq => ?_⟩⟩
      refine ⟨fun hn y hy => ?_, fun hp2 => ⟨fun hn y hy => ?_, fun hq2 y hy => ?_⟩⟩
      · rw [p_form hne hge hp hq (by simp at hn; simp [hn])] at hy
        subst hy
        exact ⟨rfl, rfl, rfl, rfl, trivial⟩
      · rw [p_form hne hge hp hq (by simp at hn; simp [hn])] at hy
        subst hy
        exact ⟨rfl, rfl, rfl, rfl, trivial⟩
      · rw [p_ok hne hge hp hq (by simp at hp2 hq2; simp [hp2, hq2])] at hy
        subst hy
        exact ⟨rfl, rfl, rfl, rfl, trivial⟩)
set_option maxRecDepth 100000 in
set_option maxHeartbeats 8000000 in
theorem parseR_vc (L : List Int) (c : Nat) (hL : Byt L) (hc : L.length ≤ c) : parseC.vc Try.prog (envL envH1) noCtl Try.f10 [] [⟨L, c⟩] := of_eq (b := ((↑L.length : Int) = (0 : Int) → ∀ (y : Int × Int × Int × Int), y = parseF L → (0 : Int) = y.fst ∧ (0 : Int) = y.snd.fst ∧ (0 : Int) = y.snd.snd.fst ∧ (3 : Int) = y.snd.snd.snd ∧ True) ∧ (¬(↑L.length : Int) = (0 : Int) → Lf ((0 : Int) ≤ (0 : Int) ∧ (0 : Int) < (↑L.length : Int)) ∧ Lf ((0 : Nat) < L.length) ∧ ∀ (x : Int), x = L.getD (0 : Nat) (0 : Int) / (16 : Int) → Lf ((0 : Int) ≤ x ∧ x < (16 : Int)) ∧ ∀ (x_1 : Int), x_1 = sizeF x → Lf ((0 : Int) ≤ (0 : Int) ∧ (0 : Int) < (↑L.length : Int)) ∧ Lf ((0 : Nat) < L.length) ∧ ∀ (x : Int), x = bits BinOp.and IntKind.u8 (L.getD (0 : Nat) (0 : Int)) (15 : Int) → Lf ((0 : Int) ≤ x ∧ x < (16 : Int)) ∧ ∀ (x_2 : Int), x_2 = sizeF x → ∀ (x : Int), x = IntKind.i64.wrap ((1 : Int) + x_1) → ∀ (x_3 : Int), x_3 = IntKind.i64.wrap (x + x_2) → ((↑L.length : Int) < x_3 → ∀ (y : Int × Int × Int × Int), y = parseF L → (0 : Int) = y.fst ∧ (0 : Int) = y.snd.fst ∧ (0 : Int) = y.snd.snd.fst ∧ (3 : Int) = y.snd.snd.snd ∧ True) ∧ (¬(↑L.length : Int) < x_3 → Lf ((0 : Int) ≤ (0 : Int) ∧ (0 : Int) < (↑L.length : Int)) ∧ Lf ((0 : Nat) < L.length) ∧ ∀ (x : Int), x = L.getD (0 : Nat) (0 : Int) / (16 : Int) → ∀ (x_4 : Int), x_4 = IntKind.i64.wrap ((1 : Int) + x_1) → Lf ((0 : Int) ≤ x_4 ∧ x_4 ≤ (↑c : Int)) ∧ Lf ((0 : Int) ≤ (1 : Int) ∧ (1 : Int) ≤ (↑x_4.toNat : Int)) ∧ Lf ((1 : Nat) + (x_4.toNat - (1 : Nat)) ≤ L.length) ∧ Lf (((0 : Int) ≤ x ∧ x < (16 : Int)) ∧ Byt (List.take (x_4.toNat - (1 : Nat)) (List.drop (1 : Nat) L)) ∧ (↑(List.take (x_4.toNat - (1 : Nat)) (List.drop (1 : Nat) L)).length : Int) = sizeF x) ∧ ∀ (x_5 : Int × Bool), x_5 = numF x (List.take (x_4.toNat - (1 : Nat)) (List.drop (1 : Nat) L)) → Lf ((0 : Int) ≤ (0 : Int) ∧ (0 : Int) < (↑L.length : Int)) ∧ Lf ((0 : Nat) < L.length) ∧ ∀ (x : Int), x = bits BinOp.and IntKind.u8 (L.getD (0 : Nat) (0 : Int)) (15 : Int) → ∀ (x_6 : Int), x_6 = IntKind.i64.wrap ((1 : Int) + x_1) → ∀ (x_7 : Int), x_7 = IntKind.i64.wrap ((1 : Int) + x_1) → ∀ (x_8 : Int), x_8 = IntKind.i64.wrap (x_7 + x_2) → Lf ((0 : Int) ≤ x_8 ∧ x_8 ≤ (↑c : Int)) ∧ Lf ((0 : Int) ≤ x_6 ∧ x_6 ≤ (↑x_8.toNat : Int)) ∧ Lf ((0 : Nat) + x_6.toNat + (x_8.toNat - x_6.toNat) ≤ L.length) ∧ Lf (((0 : Int) ≤ x ∧ x < (16 : Int)) ∧ Byt (List.take (x_8.toNat - x_6.toNat) (List.drop ((0 : Nat) + x_6.toNat) L)) ∧ (↑(List.take (x_8.toNat - x_6.toNat) (List.drop ((0 : Nat) + x_6.toNat) L)).length : Int) = sizeF x) ∧ ∀ (x_9 : Int × Bool), x_9 = numF x (List.take (x_8.toNat - x_6.toNat) (List.drop ((0 : Nat) + x_6.toNat) L)) → ((!x_5.snd) = true → ∀ (y : Int × Int × Int × Int), y = parseF L → (0 : Int) = y.fst ∧ (0 : Int) = y.snd.fst ∧ (0 : Int) = y.snd.snd.fst ∧ (2 : Int) = y.snd.snd.snd ∧ True) ∧ ((!x_5.snd) = false → ((!x_9.snd) = true → ∀ (y : Int × Int × Int × Int), y = parseF L → (0 : Int) = y.fst ∧ (0 : Int) = y.snd.fst ∧ (0 : Int) = y.snd.snd.fst ∧ (2 : Int) = y.snd.snd.snd ∧ True) ∧ ((!x_9.snd) = false → ∀ (x : Int), x = IntKind.i64.wrap ((1 : Int) + x_1) → ∀ (x_10 : Int), x_10 = IntKind.i64.wrap (x + x_2) → ∀ (y : Int × Int × Int × Int), y = parseF L → x_5.fst = y.fst ∧ x_9.fst = y.snd.fst ∧ x_10 = y.snd.snd.fst ∧ (0 : Int) = y.snd.snd.snd ∧ True))))) (by kernel_rfl) (by
  have hb := byt_getD hL 0
  rw [byt_15 hL]
  apply And.intro
  · intro h y hy
    have h0 : L.length = 0 := by omega
    rw [p_none h0] at hy
    subst hy
    exact ⟨rfl, rfl, rfl, rfl, trivial⟩
  · intro h
    have hne : ¬L.length = 0 := by omega
    have b1 := sz_bd (x := L.getD 0 0 / 16) (by omega) (by omega)
    have b2 := sz_bd (x := L.getD 0 0 % 16) (by omega) (by omega)
    refine ⟨⟨by omega⟩, ⟨by omega⟩, fun x hx => ⟨⟨by omega⟩, fun s1 hs1 => ⟨⟨by omega⟩, ⟨by omega⟩, fun z hz => ⟨⟨by omega⟩, fun s2 hs2 a1 ha1 a2 ha2 => ?_⟩⟩⟩⟩
    subst hx; subst hz; subst hs1; subst hs2
    have e1 : a1 = 1 + sizeF (L.getD 0 0 / 16) := by subst ha1; simp only [IntKind.wrap_i64]; omega
    have w1 : IntKind.i64.wrap (1 + sizeF (L.getD 0 0 / 16)) = 1 + sizeF (L.getD 0 0 / 16) := by simp only [IntKind.wrap_i64]; omega
    have w2 : IntKind.i64.wrap (1 + sizeF (L.getD 0 0 / 16) + sizeF (L.getD 0 0 % 16)) = 1 + sizeF (L.getD 0 0 / 16) + sizeF (L.getD 0 0 % 16) := by simp only [IntKind.wrap_i64]; omega
    have e2 : a2 = 1 + sizeF (L.getD 0 0 / 16) + sizeF (L.getD 0 0 % 16) := by subst ha2; rw [e1, w2]
    clear ha1 ha2
    subst e1; subst e2
    apply And.intro
    · intro hlt y hy
      rw [p_short hne hlt] at hy
      subst hy
      exact ⟨rfl, rfl, rfl, rfl, trivial⟩
    · intro hge
      refine ⟨⟨by omega⟩, ⟨by omega⟩, fun x hx a3 ha3 => ?_⟩
      rw [w1] at ha3
      subst hx; subst ha3
      have t1 : (1 + sizeF (L.getD 0 0 / 16)).toNat - 1 = (sizeF (L.getD 0 0 / 16)).toNat := by omega
      rw [t1]
      refine ⟨⟨by omega⟩, ⟨by omega⟩, ⟨by omega⟩, ⟨⟨by omega, by omega⟩, byt_take (byt_drop hL _) _, by rw [List.length_take, List.length_drop]; omega⟩, fun p hp => ⟨⟨by omega⟩, ⟨by omega⟩, fun z hz a4 ha4 a5 ha5 a6 ha6 => ?_⟩⟩
      rw [w1] at ha4 ha5
      subst hz; subst ha4; subst ha5
      rw [w2] at ha6
      subst ha6
      have t2 : (1 + sizeF (L.getD 0 0 / 16) + sizeF (L.getD 0 0 % 16)).toNat - (1 + sizeF (L.getD 0 0 / 16)).toNat = (sizeF (L.getD 0 0 % 16)).toNat := by omega
      have t3 : 0 + (1 + sizeF (L.getD 0 0 / 16)).toNat = 1 + (sizeF (L.getD 0 0 / 16)).toNat := by omega
      rw [t2, t3]
      refine ⟨⟨by omega⟩, ⟨by omega⟩, ⟨by omega⟩, ⟨⟨by omega, by omega⟩, byt_take (byt_drop hL _) _, by rw [List.length_take, List.length_drop]; omega⟩, fun q hq => ?_⟩
      refine ⟨fun hn y hy => ?_, fun hp2 => ⟨fun hn y hy => ?_, fun hq2 a7 ha7 a8 ha8 y hy => ?_⟩⟩
      · rw [p_form hne hge hp hq (by simp at hn; simp [hn])] at hy
        subst hy
        exact ⟨rfl, rfl, rfl, rfl, trivial⟩
      · rw [p_form hne hge hp hq (by simp at hn; simp [hn])] at hy
        subst hy
        exact ⟨rfl, rfl, rfl, rfl, trivial⟩
      · rw [p_ok hne hge hp hq (by simp at hp2 hq2; simp [hp2, hq2])] at hy
        rw [w1] at ha7
        subst ha7
        rw [w2] at ha8
        subst hy; subst ha8
        exact ⟨rfl, rfl, rfl, rfl, trivial⟩)
end Go.Proofs.Ytjmkeicmchgggaa.Sx
