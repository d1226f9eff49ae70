/- Headers, plainly: bits, bytes, strings of bytes. No program in sight. -/
import Derived.Test.YtjmkeicmchgggaaHd0
import Derived.Test.YtjmkeicmchgggaaSxR
namespace Go.Proofs.Ytjmkeicmchgggaa
open Go Go.RowKit
set_option linter.unusedVariables false
set_option linter.unusedSimpArgs false
theorem fin_of {n : Nat} {x : Int} (h0 : 0 ≤ x) (h1 : x < n) : ∃ k : Fin n, x = (k.val : Int) := ⟨⟨x.toNat, by omega⟩, by simp; omega⟩
theorem and_16 : ∀ k : Fin 16, bits .and .u8 (k.val : Int) 8 = (if (k.val : Int) < 8 then 0 else 8) ∧ bits .and .u8 (k.val : Int) 7 = (k.val : Int) % 8 := by decide +kernel
theorem and_15 : ∀ k : Fin 256, bits .and .u8 (k.val : Int) 15 = (k.val : Int) % 16 := by decide +kernel
theorem or_16 : ∀ k j : Fin 16, bits .or .u8 ((k.val : Int) * 16) (j.val : Int) = (k.val : Int) * 16 + (j.val : Int) := by decide +kernel
theorem uB_len (v : Int) : ∀ k, (uB v k).length = k
  | 0 => rfl
  | k + 1 => by simp [uB, uB_len v k]
theorem uB_byt (v : Int) : ∀ k, Byt (uB v k)
  | 0 => fun x hx => by cases hx
  | k + 1 => fun x hx => by
    simp only [uB, List.mem_cons] at hx
    rcases hx with rfl | hx
    · omega
    · exact uB_byt v k x hx
theorem byt_append {L M : List Int} (h : Byt L) (k : Byt M) : Byt (L ++ M) := fun x hx => by
  rcases List.mem_append.1 hx with hx | hx
  · exact h x hx
  · exact k x hx
theorem byt_cons {x : Int} {L : List Int} (h0 : 0 ≤ x) (h1 : x < 256) (h : Byt L) : Byt (x :: L) := fun y hy => by
  rcases List.mem_cons.1 hy with rfl | hy
  · exact ⟨h0, h1⟩
  · exact h y hy
theorem byt_take {L : List Int} (h : Byt L) (n : Nat) : Byt (L.take n) := fun x hx => h x (List.mem_of_mem_take hx)
theorem byt_drop {L : List Int} (h : Byt L) (n : Nat) : Byt (L.drop n) := fun x hx => h x (List.mem_of_mem_drop hx)
theorem byt_getD {L : List Int} (h : Byt L) (i : Nat) : 0 ≤ L.getD i 0 ∧ L.getD i 0 < 256 := by
  rw [List.getD_eq_getElem?_getD]
  cases hx : L[i]? with
  | none => simp
  | some x => simpa using h x (List.mem_of_getElem? hx)
theorem fld_nB {x : Int} {k : Nat} (h1 : 1 ≤ k) (h8 : k ≤ 8) (hx : x / 256 ^ k ≤ 0) (hl : lowF k x) (h : ¬x < 8) : fieldF x = (7 + (k : Int), uB x k) := by
  have hn : nB x = k := by
    match k, h1, h8 with
    | 1, _, _ => simp only [lowF] at hl; unfold nB; (repeat' split) <;> first | rfl | omega
    | 2, _, _ => simp only [lowF] at hl; unfold nB; (repeat' split) <;> first | rfl | omega
    | 3, _, _ => simp only [lowF] at hl; unfold nB; (repeat' split) <;> first | rfl | omega
    | 4, _, _ => simp only [lowF] at hl; unfold nB; (repeat' split) <;> first | rfl | omega
    | 5, _, _ => simp only [lowF] at hl; unfold nB; (repeat' split) <;> first | rfl | omega
    | 6, _, _ => simp only [lowF] at hl; unfold nB; (repeat' split) <;> first | rfl | omega
    | 7, _, _ => simp only [lowF] at hl; unfold nB; (repeat' split) <;> first | rfl | omega
    | 8, _, _ => simp only [lowF] at hl; unfold nB; (repeat' split) <;> first | rfl | omega
  simp only [fieldF, h, if_false, hn]
theorem nB_bd (x : Int) : 1 ≤ nB x ∧ nB x ≤ 8 := by unfold nB; (repeat' split) <;> omega
theorem field_bd {x : Int} (h : 0 ≤ x) : 0 ≤ (fieldF x).1 ∧ (fieldF x).1 < 16 ∧ (fieldF x).2.length ≤ 8 ∧ Byt (fieldF x).2 := by
  have := nB_bd x
  unfold fieldF
  split
  · exact ⟨h, by simp; omega, by simp, fun x hx => by cases hx⟩
  · exact ⟨by simp; omega, by simp; omega, by simp [uB_len]; omega, uB_byt x _⟩
theorem u64_or {n c : Int} (h0 : 0 ≤ n) (h1 : n * 256 < 18446744073709551616) (c0 : 0 ≤ c) (c1 : c < 256) : bits .or .u64 (n * 256) c = n * 256 + c := by
  obtain ⟨a, rfl⟩ := Int.eq_ofNat_of_zero_le h0
  obtain ⟨b, rfl⟩ := Int.eq_ofNat_of_zero_le c0
  have hb : b < 2 ^ 8 := by omega
  have e : 2 ^ 8 * a + b = 2 ^ 8 * a ||| b := Nat.two_pow_add_eq_or_of_lt hb a
  show IntKind.u64.wrap ((BitVec.ofInt 64 ((a : Int) * 256) ||| BitVec.ofInt 64 (b : Int)).toNat : Int) = _
  have e1 : (BitVec.ofInt 64 ((a : Int) * 256)).toNat = 2 ^ 8 * a := by
    rw [BitVec.toNat_ofInt]
    omega
  have e2 : (BitVec.ofInt 64 (b : Int)).toNat = b := by
    rw [BitVec.toNat_ofInt]
    omega
  rw [BitVec.toNat_or, e1, e2, ← e, IntKind.wrap_u64]
  omega
theorem beN_snoc : ∀ (l : List Int) (n c : Int), beN n (l ++ [c]) = beN n l * 256 + c
  | [], n, c => rfl
  | a :: l, n, c => by simp only [List.cons_append, beN]; exact beN_snoc l _ c
theorem take_snoc {L : List Int} {i : Nat} (h : i < L.length) : L.take (i + 1) = L.take i ++ [L.getD i 0] := by
  rw [List.take_add_one, List.getD_eq_getElem?_getD]
  simp [h]
theorem push_list : ∀ (L : List Int) (acc : ByteArray), (L.foldl (fun r n => r.push (UInt8.ofNat n.toNat)) acc).data.toList = acc.data.toList ++ L.map fun n => UInt8.ofNat n.toNat
  | [], acc => by simp
  | x :: L, acc => by
    simp only [List.foldl_cons, List.map_cons]
    rw [push_list L]
    simp [ByteArray.push]
theorem str_inj {L M : List Int} (hL : Byt L) (hM : Byt M) : (L.foldl (fun r n => r.push (UInt8.ofNat n.toNat)) ByteArray.empty = M.foldl (fun r n => r.push (UInt8.ofNat n.toNat)) ByteArray.empty) ↔ L = M := by
  constructor
  · intro h
    have h2 : L.map (fun n => UInt8.ofNat n.toNat) = M.map fun n => UInt8.ofNat n.toNat := by
      have := congrArg (fun z : ByteArray => z.data.toList) h
      simpa [push_list] using this
    clear h
    induction L generalizing M with
    | nil => cases M with
      | nil => rfl
      | cons b M => simp at h2
    | cons a L ih => cases M with
      | nil => simp at h2
      | cons b M =>
        simp only [List.map_cons, List.cons.injEq] at h2
        obtain ⟨h3, h4⟩ := h2
        have ha := hL a (by simp)
        have hb := hM b (by simp)
        have e : a = b := by
          have := congrArg UInt8.toNat h3
          simp at this
          omega
        rw [e, ih (fun x hx => hL x (by simp [hx])) (fun x hx => hM x (by simp [hx])) h4]
  · intro h; rw [h]
end Go.Proofs.Ytjmkeicmchgggaa
