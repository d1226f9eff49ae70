/- PostOrder, walked. No condition. -/
import Derived.Test.YtplpmnippkkkkaaPo7
import Derived.Deep.Matrix
namespace Go.Proofs.Ytplpmnippkkkkaa
open Go Go.RowKit
set_option linter.unusedVariables false
set_option linter.unusedSimpArgs false

theorem via {a b c : World} (h : Below a.heap.size a b) (h2 : Below b.heap.size b c) : Below a.heap.size a c :=
  ⟨h2.os.trans h.os, h2.tape.trans h.tape, h2.output.trans h.output, Nat.le_trans h.size h2.size, fun x hx => (h2.block x (Nat.lt_of_lt_of_le hx h.size)).trans (h.block x hx)⟩
theorem via' {B : Nat} {a b c : World} (h : Below B a b) (h2 : Below b.heap.size b c) (hB : B ≤ b.heap.size) : Below B a c :=
  ⟨h2.os.trans h.os, h2.tape.trans h.tape, h2.output.trans h.output, Nat.le_trans h.size h2.size, fun x hx => (h2.block x (by omega)).trans (h.block x hx)⟩
theorem Touch.after {B : Nat} {a b c : World} {pb k : Nat} {ao : Option Addr} (h : Below B a b) (h2 : Touch b c pb ao k) (hB : B ≤ b.heap.size) (hp : B ≤ pb) (hg : 0 < k → ∀ g o, ao = some ⟨g, o, none⟩ → B ≤ g) : Below B a c :=
  ⟨h2.os.trans h.os, h2.tape.trans h.tape, h2.output.trans h.output, Nat.le_trans h.size h2.size, fun x hx => (h2.keep x (by omega) (by omega) (fun hk g o e => by have := hg hk g o e; omega)).trans (h.block x hx)⟩
theorem awake_any (w : World) : Calls Try.prog 9 #[] w fun e w' => e = .returned (.bool true) ∧ Below w.heap.size w w' :=
  (Sx.Con0.calls (Sx.envQ_ok true true) Sx.mixed Try.func9 rfl Sx.okC Sx.awake_vc (vals := []) (w := w) trivial).mono fun e w' ⟨v, r, e1, h1, h2, h3⟩ => by
    have h1' : r = Sx.one (.boo true) := h1
    subst h1'
    have h2' : v = .bool true := h2
    subst h2'
    exact ⟨e1, h3⟩
theorem src_any {P : Program} {w : World} {tx el : TypeId} {k : IntKind} {A : Option Addr} {L C : Nat} {Z : List Int} (ht : P.underlying tx = some (.slice el)) (hZ : Z.length = L) (hA : A = none → L = 0) (h : ∀ a, A = some a → ∀ c, c < L → w.cell? (a.add c) = some (.int k (Z.getD c 0))) :
    Src P 1 tx (.slice A L C) L (Sx.valsI k Z) w := by
  have cell : ∀ w' : World, (∀ x, w'.cell? x = w.cell? x) → (Builtin.firstCells 1 L (.slice A L C)).run P w' = .ok (Sx.valsI k Z).toArray w' := fun w' hw => by
    cases A with
    | none =>
      have h0 := hA rfl
      subst h0
      have hz : Z = [] := List.eq_nil_of_length_eq_zero hZ
      subst hz
      exact run_firstCells_none w' 1 0 0 C
    | some a =>
      refine run_firstCells_some w' 1 L a L C (Sx.valsI k Z) (by simp [Sx.valsI_len, hZ]) fun j u hu => ?_
      have hj : j < L := by
        have := (List.getElem?_eq_some_iff.1 hu).1
        simpa [Sx.valsI_len, hZ] using this
      rw [Sx.valsI_get k Z j (by omega)] at hu
      cases hu
      rw [hw]
      exact h a rfl j hj
  exact { kind := .inl ⟨el, ht⟩, len := fun w' => by simp [Builtin.lenOf], cells := cell w fun _ => rfl, cellsD := cell w.drew fun _ => rfl, newsLen := by simp [Sx.valsI_len, hZ], one := Sx.valsI_one k Z }
set_option maxHeartbeats 8000000 in
set_option maxRecDepth 100000 in
theorem same_self (A : Option Addr) (L C : Nat) (Z : List Int) (w : World) (hZ : Z.length = L) (hA : A = none → L = 0) (h : ∀ a, A = some a → ∀ c, c < L → w.cell? (a.add c) = some (.int .u8 (Z.getD c 0))) :
    Calls Try.prog 15 #[.slice A L C, .slice A L C] w fun e w' => e = .returned (.bool true) ∧ w' = w := by
  have hcv : (convert 33 9 (.slice A L C)).run Try.prog w = .ok (.string (Sx.strOf Z)) w := Sx.run_str 5 Try.underlying33 Try.underlying9 Try.underlying5 ⟨_, _, _, rfl⟩ (by rw [hZ]; exact src_any Try.underlying33 hZ hA h)
  go_enter Try.func15, Try.ntmps15
  go_wp2
  exact bodyPost_ret (v := .bool true) (by first | rfl | (simp [results]; done) | (simp [results]; rfl)) rfl ⟨rfl, rfl⟩
/-- the object of the walk: its struct, its row, all of them new -/
structure Here (T : TypeId) (w0 wr : World) (pb : Nat) (most : Int) (ao : Option Addr) (n c : Nat) (xs : List Value) : Prop where
  st : StAt wr pb T #[.int .i64 most, .slice ao n c]
  row : RowAt wr pb ao n c xs
  pb : w0.heap.size ≤ pb
  g : 0 < c → ∀ g o, ao = some ⟨g, o, none⟩ → w0.heap.size ≤ g
  b : Below w0.heap.size w0 wr
theorem Here.sz {T : TypeId} {w0 wr : World} {pb n c : Nat} {most : Int} {ao : Option Addr} {xs : List Value} (h : Here T w0 wr pb most ao n c xs) : w0.heap.size ≤ wr.heap.size := h.b.size
theorem Here.below {T : TypeId} {w0 wr w1 : World} {pb n c : Nat} {most : Int} {ao : Option Addr} {xs : List Value} (h : Here T w0 wr pb most ao n c xs) (hb : Below wr.heap.size wr w1) : Here T w0 w1 pb most ao n c xs :=
  ⟨h.st.below hb, h.row.below hb, h.pb, h.g, via' h.b hb h.sz⟩
theorem Here.next {T : TypeId} {w0 wr w1 : World} {pb n c n' c' : Nat} {most : Int} {ao ao' : Option Addr} {xs xs' : List Value} (h : Here T w0 wr pb most ao n c xs) (hr : RowAt w1 pb ao' n' c' xs') (hg : Grow wr ao c ao' c') (ht : Touch wr w1 pb ao c) (hs : StAt w1 pb T #[.int .i64 most, .slice ao' n' c']) : Here T w0 w1 pb most ao' n' c' xs' :=
  ⟨hs, hr, h.pb, fun hc g o e => by
    rcases hg hc g o e with h1 | ⟨h1, o', h2⟩
    · exact Nat.le_trans h.sz h1
    · exact h.g h1 g o' h2, Touch.after h.b ht h.sz h.pb h.g⟩
def pre (V : Nat → Value) (n : Nat) : List Value := (List.range n).map V
theorem pre_succ (V : Nat → Value) (n : Nat) : pre V (n + 1) = pre V n ++ [V n] := by simp [pre, List.range_succ]
def seg (V : Nat → Value) (k n : Nat) : List Value := (pre V n).drop k
theorem seg_head {V : Nat → Value} {k n : Nat} (h : k < n) : (seg V k n)[0]? = some (V k) := by simp [seg, pre, h]
theorem seg_drop (V : Nat → Value) (k n : Nat) : (seg V k n).drop 1 = seg V (k + 1) n := by simp [seg]
theorem intOf_nat (k : Nat) : (intOf (.int .i64 k)).toNat = k := by simp [intOf]
/-- the rows that came -/
structure Came (w : World) (ao : Option Addr) (len : Nat) (A : Nat → Option Addr) (L C : Nat → Nat) (Z : Nat → List Int) : Prop where
  at_ : 0 < len → ∃ b off, ao = some ⟨b, off, none⟩ ∧ ∀ i, i < len → w.cell? ⟨b, off + i, none⟩ = some (.slice (A i) (L i) (C i))
  z : ∀ i, i < len → (Z i).length = L i ∧ (A i = none → L i = 0) ∧ ∀ a, A i = some a → ∀ c, c < L i → w.cell? (a.add c) = some (.int .u8 ((Z i).getD c 0))
set_option maxHeartbeats 8000000 in
set_option maxRecDepth 100000 in
theorem order_pos (M : Nat) (ao : Option Addr) (len cap : Nat) (A : Nat → Option Addr) (L C : Nat → Nat) (Z : Nat → List Int) (w : World) (hM1 : 2 ≤ M) (hM2 : M ≤ 255) (hm : len ≤ 9223372036854775807) (hx : Came w ao len A L C Z) :
    Calls Try.prog 4 #[.int .u8 (M : Int), .slice ao len cap] w fun e w' => e = .returned (.bool true) ∧ Below w.heap.size w w' := by
  have hmw : IntKind.i64.wrap (M : Int) = (M : Int) := by rw [IntKind.wrap_i64]; omega
  have hMm : min (max (M : Int) 1) 1000 = (M : Int) := by omega
  obtain ⟨V, hV⟩ : ∃ V : Nat → Value, V = fun i => .slice (A i) (L i) (C i) := ⟨_, rfl⟩
  have hVk : ∀ k, V k = .slice (A k) (L k) (C k) := fun k => by rw [hV]
  clear hV
  go_enter Try.func4, Try.ntmps4
  go_wp2_with (first | (go_at_call 12; refine (new_row _ _ (by omega) (by omega)).mono ?_; rintro e w1 ⟨rfl, hb1, hs1⟩; rw [hMm] at hs1) | (go_at_call 9; refine (awake_any _).mono ?_; rintro e w2 ⟨rfl, hb2⟩))
  all_goals
    go_loopw [7] (fun i wr => ∃ (k : Nat) (ao1 : Option Addr) (c : Nat), i = .int .i64 k ∧ k ≤ len ∧ k ≤ 300 ∧ Here 67 w wr w.heap.size (M : Int) ao1 (min k M) c (pre V (min k M)))
      (fun i _ => 300 - (intOf i).toNat)
    case atStart => exact ⟨0, none, 0, rfl, by omega, by omega, by rw [Nat.zero_min]; exact ⟨hs1.below hb2, ⟨rfl, Nat.le_refl _, Nat.zero_le _, fun h => by omega⟩, Nat.le_refl _, fun h => by omega, via hb1 hb2⟩⟩
    case round =>
      obtain ⟨k, ao1, c, rfl, hk, hk3, hH⟩ := hrel
      by_cases hlt : k < len ∧ k < 300
      · obtain ⟨hl1, hl2⟩ := hlt
        obtain ⟨bb, off, hao, hcc⟩ := hx.at_ (by omega)
        subst hao
        have e0 : wr.cell? ⟨bb, off + k, none⟩ = some (.slice (A k) (L k) (C k)) := by
          have h1 := hcc k hl1
          exact (hH.b.cell (World.block_lt_of_cell? w _ h1)).trans h1
        by_cases hr : k < M
        · have hri : (k : Int) < (M : Int) := by omega
          rw [Nat.min_eq_left (by omega)] at hH
          go_wp2_with (go_at_call 13; refine (add_row_room w.heap.size (M : Int) _ _ _ _ hH.st.heap (A k) (L k) (C k) _ hH.row (by omega) (by omega)).mono ?_; rintro e w3 ⟨rfl, ao3, c3, hr3, hg3, ht3, hs3⟩)
          exact ⟨⟨k + 1, ao3, c3, by go_num, by omega, by omega, by rw [Nat.min_eq_left (by omega), pre_succ, hVk]; exact hH.next hr3 hg3 ht3 hs3⟩, by simp [intOf]; omega⟩
        · have hri : ¬(k : Int) < (M : Int) := by omega
          rw [Nat.min_eq_right (by omega)] at hH
          go_wp2_with (go_at_call 13; refine (add_row_full w.heap.size (M : Int) _ _ _ _ hH.st.heap (A k) (L k) (C k) (by omega)).mono ?_; rintro e w3 ⟨rfl, hb3⟩)
          exact ⟨⟨k + 1, ao1, c, by go_num, by omega, by omega, by rw [Nat.min_eq_right (by omega)]; exact hH.below hb3⟩, by simp [intOf]; omega⟩
      · obtain ⟨T, hT, hT1, hT2⟩ : ∃ T : Nat, T = min k M ∧ T ≤ len ∧ (∀ j : Nat, (j < len ∧ (j : Int) < min (M : Int) 300) ↔ j < T) := ⟨min k M, rfl, by omega, fun j => by omega⟩
        rw [← hT] at hH
        clear hs1 hb2 hb1
        go_wp2
        all_goals
          go_loopw [8] (fun i wr => ∃ (k : Nat) (ao1 : Option Addr) (c : Nat), i = .int .i64 k ∧ k ≤ T ∧ Here 67 w wr w.heap.size (M : Int) ao1 (T - k) c (seg V k T))
            (fun i _ => T - (intOf i).toNat)
          case atStart => exact ⟨0, _, _, rfl, by omega, by rw [Nat.sub_zero]; exact hH⟩
          case round =>
            obtain ⟨k, ao1, c, rfl, hk, hH⟩ := hrel
            have hTk := hT2 k
            by_cases hlt : k < T
            · obtain ⟨hl1, hl2⟩ := hTk.2 hlt
              have hkM : (k : Int) < (M : Int) := by omega
              have hk3 : (k : Int) < 300 := by omega
              obtain ⟨bb, off, hao, hcc⟩ := hx.at_ (by omega)
              obtain ⟨z1, z2, z3⟩ := hx.z k hl1
              subst hao
              have hs := seg_head (V := V) hlt
              rw [hVk] at hs
              have hlen : seg V k T = seg V k T := rfl
              go_wp2_with (first | (go_at_call 14; refine (take_row_some w.heap.size (M : Int) _ _ _ _ hH.st.heap (A k) (L k) (C k) _ hH.row hs (by omega)).mono ?_; rintro e w3 ⟨rfl, ao3, c3, hr3, hg3, ht3, hs3⟩; have hN := hH.next hr3 hg3 ht3 hs3; rw [seg_drop, show T - k - 1 = T - (k + 1) from (by omega)] at hN; have e0 : w3.cell? ⟨bb, off + k, none⟩ = some (.slice (A k) (L k) (C k)) := (hN.b.cell (World.block_lt_of_cell? w _ (hcc k hl1))).trans (hcc k hl1)) | (go_at_call 15; refine (same_self (A k) (L k) (C k) (Z k) _ z1 z2 (fun a ha c hc => (hN.b.cell (World.block_lt_of_cell? w _ (z3 a ha c hc))).trans (z3 a ha c hc))).mono ?_; rintro e w4 ⟨rfl, rfl⟩))
              exact ⟨⟨k + 1, ao3, c3, by go_num, by omega, hN⟩, by simp [intOf]; omega⟩
            · have hz : T - k = 0 := by omega
              rw [hz] at hH
              have hle : ¬(k < len ∧ (k : Int) < (M : Int)) := fun h => hlt (hTk.1 ⟨h.1, by omega⟩)
              by_cases hkl : k < len
              · have hkM : ¬(k : Int) < (M : Int) := fun h => hle ⟨hkl, h⟩
                go_wp2_with (first | (go_at_call 14; refine (take_row_none w.heap.size (M : Int) _ _ _ _ hH.st.heap rfl).mono ?_; rintro e w3 ⟨rfl, hb3⟩; have hH3 := hH.below hb3) | (go_at_call 16; refine (len_row w.heap.size (M : Int) _ _ _ _ hH3.st.heap (by omega)).mono ?_; rintro e w4 ⟨rfl, hb4⟩))
                exact bodyPost_ret (v := .bool true) (by first | rfl | (simp [results]; done) | (simp [results]; rfl)) rfl ⟨rfl, (hH3.below hb4).b⟩
              · go_wp2_with (first | (go_at_call 14; refine (take_row_none w.heap.size (M : Int) _ _ _ _ hH.st.heap rfl).mono ?_; rintro e w3 ⟨rfl, hb3⟩; have hH3 := hH.below hb3) | (go_at_call 16; refine (len_row w.heap.size (M : Int) _ _ _ _ hH3.st.heap (by omega)).mono ?_; rintro e w4 ⟨rfl, hb4⟩))
                exact bodyPost_ret (v := .bool true) (by first | rfl | (simp [results]; done) | (simp [results]; rfl)) rfl ⟨rfl, (hH3.below hb4).b⟩
set_option maxHeartbeats 8000000 in
set_option maxRecDepth 100000 in
theorem order_one  (ao : Option Addr) (len cap : Nat) (A : Nat → Option Addr) (L C : Nat → Nat) (Z : Nat → List Int) (w : World)  (hm : len ≤ 9223372036854775807) (hx : Came w ao len A L C Z) :
    Calls Try.prog 4 #[.int .u8 1, .slice ao len cap] w fun e w' => e = .returned (.bool true) ∧ Below w.heap.size w w' := by
  have hmw : IntKind.i64.wrap 1 = 1 := by rw [IntKind.wrap_i64]; omega
  have hMm : min (max 1 1) 1000 = (1 : Int) := by omega
  obtain ⟨V, hV⟩ : ∃ V : Nat → Value, V = fun i => .slice (A i) (L i) (C i) := ⟨_, rfl⟩
  have hVk : ∀ k, V k = .slice (A k) (L k) (C k) := fun k => by rw [hV]
  clear hV
  go_enter Try.func4, Try.ntmps4
  go_wp2_with (first | (go_at_call 12; refine (new_row _ _ (by omega) (by omega)).mono ?_; rintro e w1 ⟨rfl, hb1, hs1⟩; rw [hMm] at hs1) | (go_at_call 9; refine (awake_any _).mono ?_; rintro e w2 ⟨rfl, hb2⟩))
  all_goals
    go_loopw [7] (fun i wr => ∃ (k : Nat) (ao1 : Option Addr) (c : Nat), i = .int .i64 k ∧ k ≤ len ∧ k ≤ 300 ∧ Here 67 w wr w.heap.size (1 : Int) ao1 (min k 1) c (pre V (min k 1)))
      (fun i _ => 300 - (intOf i).toNat)
    case atStart => exact ⟨0, none, 0, rfl, by omega, by omega, by rw [Nat.zero_min]; exact ⟨hs1.below hb2, ⟨rfl, Nat.le_refl _, Nat.zero_le _, fun h => by omega⟩, Nat.le_refl _, fun h => by omega, via hb1 hb2⟩⟩
    case round =>
      obtain ⟨k, ao1, c, rfl, hk, hk3, hH⟩ := hrel
      by_cases hlt : k < len ∧ k < 300
      · obtain ⟨hl1, hl2⟩ := hlt
        obtain ⟨bb, off, hao, hcc⟩ := hx.at_ (by omega)
        subst hao
        have e0 : wr.cell? ⟨bb, off + k, none⟩ = some (.slice (A k) (L k) (C k)) := by
          have h1 := hcc k hl1
          exact (hH.b.cell (World.block_lt_of_cell? w _ h1)).trans h1
        by_cases hr : k < 1
        · have hri : (k : Int) < (1 : Int) := by omega
          rw [Nat.min_eq_left (by omega)] at hH
          go_wp2_with (go_at_call 13; refine (add_row_room w.heap.size (1 : Int) _ _ _ _ hH.st.heap (A k) (L k) (C k) _ hH.row (by omega) (by omega)).mono ?_; rintro e w3 ⟨rfl, ao3, c3, hr3, hg3, ht3, hs3⟩)
          exact ⟨⟨k + 1, ao3, c3, by go_num, by omega, by omega, by rw [Nat.min_eq_left (by omega), pre_succ, hVk]; exact hH.next hr3 hg3 ht3 hs3⟩, by simp [intOf]; omega⟩
        · have hri : ¬(k : Int) < (1 : Int) := by omega
          rw [Nat.min_eq_right (by omega)] at hH
          go_wp2_with (go_at_call 13; refine (add_row_full w.heap.size (1 : Int) _ _ _ _ hH.st.heap (A k) (L k) (C k) (by omega)).mono ?_; rintro e w3 ⟨rfl, hb3⟩)
          exact ⟨⟨k + 1, ao1, c, by go_num, by omega, by omega, by rw [Nat.min_eq_right (by omega)]; exact hH.below hb3⟩, by simp [intOf]; omega⟩
      · obtain ⟨T, hT, hT1, hT2⟩ : ∃ T : Nat, T = min k 1 ∧ T ≤ len ∧ (∀ j : Nat, (j < len ∧ (j : Int) < min (1 : Int) 300) ↔ j < T) := ⟨min k 1, rfl, by omega, fun j => by omega⟩
        rw [← hT] at hH
        clear hs1 hb2 hb1
        go_wp2
        all_goals
          go_loopw [8] (fun i wr => ∃ (k : Nat) (ao1 : Option Addr) (c : Nat), i = .int .i64 k ∧ k ≤ T ∧ Here 67 w wr w.heap.size (1 : Int) ao1 (T - k) c (seg V k T))
            (fun i _ => T - (intOf i).toNat)
          case atStart => exact ⟨0, _, _, rfl, by omega, by rw [Nat.sub_zero]; exact hH⟩
          case round =>
            obtain ⟨k, ao1, c, rfl, hk, hH⟩ := hrel
            have hTk := hT2 k
            by_cases hlt : k < T
            · obtain ⟨hl1, hl2⟩ := hTk.2 hlt
              have hkM : (k : Int) < (1 : Int) := by omega
              have hk3 : (k : Int) < 300 := by omega
              obtain ⟨bb, off, hao, hcc⟩ := hx.at_ (by omega)
              obtain ⟨z1, z2, z3⟩ := hx.z k hl1
              subst hao
              have hs := seg_head (V := V) hlt
              rw [hVk] at hs
              have hlen : seg V k T = seg V k T := rfl
              go_wp2_with (first | (go_at_call 14; refine (take_row_some w.heap.size (1 : Int) _ _ _ _ hH.st.heap (A k) (L k) (C k) _ hH.row hs (by omega)).mono ?_; rintro e w3 ⟨rfl, ao3, c3, hr3, hg3, ht3, hs3⟩; have hN := hH.next hr3 hg3 ht3 hs3; rw [seg_drop, show T - k - 1 = T - (k + 1) from (by omega)] at hN; have e0 : w3.cell? ⟨bb, off + k, none⟩ = some (.slice (A k) (L k) (C k)) := (hN.b.cell (World.block_lt_of_cell? w _ (hcc k hl1))).trans (hcc k hl1)) | (go_at_call 15; refine (same_self (A k) (L k) (C k) (Z k) _ z1 z2 (fun a ha c hc => (hN.b.cell (World.block_lt_of_cell? w _ (z3 a ha c hc))).trans (z3 a ha c hc))).mono ?_; rintro e w4 ⟨rfl, rfl⟩))
              exact ⟨⟨k + 1, ao3, c3, by go_num, by omega, hN⟩, by simp [intOf]; omega⟩
            · have hz : T - k = 0 := by omega
              rw [hz] at hH
              have hle : ¬(k < len ∧ (k : Int) < (1 : Int)) := fun h => hlt (hTk.1 ⟨h.1, by omega⟩)
              by_cases hkl : k < len
              · have hkM : ¬(k : Int) < (1 : Int) := fun h => hle ⟨hkl, h⟩
                go_wp2_with (first | (go_at_call 14; refine (take_row_none w.heap.size (1 : Int) _ _ _ _ hH.st.heap rfl).mono ?_; rintro e w3 ⟨rfl, hb3⟩; have hH3 := hH.below hb3) | (go_at_call 16; refine (len_row w.heap.size (1 : Int) _ _ _ _ hH3.st.heap (by omega)).mono ?_; rintro e w4 ⟨rfl, hb4⟩))
                exact bodyPost_ret (v := .bool true) (by first | rfl | (simp [results]; done) | (simp [results]; rfl)) rfl ⟨rfl, (hH3.below hb4).b⟩
              · go_wp2_with (first | (go_at_call 14; refine (take_row_none w.heap.size (1 : Int) _ _ _ _ hH.st.heap rfl).mono ?_; rintro e w3 ⟨rfl, hb3⟩; have hH3 := hH.below hb3) | (go_at_call 16; refine (len_row w.heap.size (1 : Int) _ _ _ _ hH3.st.heap (by omega)).mono ?_; rintro e w4 ⟨rfl, hb4⟩))
                exact bodyPost_ret (v := .bool true) (by first | rfl | (simp [results]; done) | (simp [results]; rfl)) rfl ⟨rfl, (hH3.below hb4).b⟩
set_option maxHeartbeats 8000000 in
set_option maxRecDepth 100000 in
theorem order_zero  (ao : Option Addr) (len cap : Nat) (A : Nat → Option Addr) (L C : Nat → Nat) (Z : Nat → List Int) (w : World)  (hm : len ≤ 9223372036854775807) (hx : Came w ao len A L C Z) :
    Calls Try.prog 4 #[.int .u8 0, .slice ao len cap] w fun e w' => e = .returned (.bool true) ∧ Below w.heap.size w w' := by
  have hmw : IntKind.i64.wrap 0 = 0 := by rw [IntKind.wrap_i64]; omega
  have hMm : min (max 0 1) 1000 = (1 : Int) := by omega
  obtain ⟨V, hV⟩ : ∃ V : Nat → Value, V = fun i => .slice (A i) (L i) (C i) := ⟨_, rfl⟩
  have hVk : ∀ k, V k = .slice (A k) (L k) (C k) := fun k => by rw [hV]
  clear hV
  go_enter Try.func4, Try.ntmps4
  go_wp2_with (first | (go_at_call 12; refine (new_row _ _ (by omega) (by omega)).mono ?_; rintro e w1 ⟨rfl, hb1, hs1⟩; rw [hMm] at hs1) | (go_at_call 9; refine (awake_any _).mono ?_; rintro e w2 ⟨rfl, hb2⟩))
  all_goals
    go_loopw [7] (fun i wr => ∃ (k : Nat) (ao1 : Option Addr) (c : Nat), i = .int .i64 k ∧ k ≤ len ∧ k ≤ 300 ∧ Here 67 w wr w.heap.size (1 : Int) ao1 (min k 1) c (pre V (min k 1)))
      (fun i _ => 300 - (intOf i).toNat)
    case atStart => exact ⟨0, none, 0, rfl, by omega, by omega, by rw [Nat.zero_min]; exact ⟨hs1.below hb2, ⟨rfl, Nat.le_refl _, Nat.zero_le _, fun h => by omega⟩, Nat.le_refl _, fun h => by omega, via hb1 hb2⟩⟩
    case round =>
      obtain ⟨k, ao1, c, rfl, hk, hk3, hH⟩ := hrel
      by_cases hlt : k < len ∧ k < 300
      · obtain ⟨hl1, hl2⟩ := hlt
        obtain ⟨bb, off, hao, hcc⟩ := hx.at_ (by omega)
        subst hao
        have e0 : wr.cell? ⟨bb, off + k, none⟩ = some (.slice (A k) (L k) (C k)) := by
          have h1 := hcc k hl1
          exact (hH.b.cell (World.block_lt_of_cell? w _ h1)).trans h1
        by_cases hr : k < 1
        · have hri : (k : Int) < (1 : Int) := by omega
          rw [Nat.min_eq_left (by omega)] at hH
          go_wp2_with (go_at_call 13; refine (add_row_room w.heap.size (1 : Int) _ _ _ _ hH.st.heap (A k) (L k) (C k) _ hH.row (by omega) (by omega)).mono ?_; rintro e w3 ⟨rfl, ao3, c3, hr3, hg3, ht3, hs3⟩)
          exact ⟨⟨k + 1, ao3, c3, by go_num, by omega, by omega, by rw [Nat.min_eq_left (by omega), pre_succ, hVk]; exact hH.next hr3 hg3 ht3 hs3⟩, by simp [intOf]; omega⟩
        · have hri : ¬(k : Int) < (1 : Int) := by omega
          rw [Nat.min_eq_right (by omega)] at hH
          go_wp2_with (go_at_call 13; refine (add_row_full w.heap.size (1 : Int) _ _ _ _ hH.st.heap (A k) (L k) (C k) (by omega)).mono ?_; rintro e w3 ⟨rfl, hb3⟩)
          exact ⟨⟨k + 1, ao1, c, by go_num, by omega, by omega, by rw [Nat.min_eq_right (by omega)]; exact hH.below hb3⟩, by simp [intOf]; omega⟩
      · obtain ⟨T, hT, hT1, hT2⟩ : ∃ T : Nat, T = min k 1 ∧ T ≤ len ∧ (∀ j : Nat, (j < len ∧ (j : Int) < min (1 : Int) 300) ↔ j < T) := ⟨min k 1, rfl, by omega, fun j => by omega⟩
        rw [← hT] at hH
        clear hs1 hb2 hb1
        go_wp2
        all_goals
          go_loopw [8] (fun i wr => ∃ (k : Nat) (ao1 : Option Addr) (c : Nat), i = .int .i64 k ∧ k ≤ T ∧ Here 67 w wr w.heap.size (1 : Int) ao1 (T - k) c (seg V k T))
            (fun i _ => T - (intOf i).toNat)
          case atStart => exact ⟨0, _, _, rfl, by omega, by rw [Nat.sub_zero]; exact hH⟩
          case round =>
            obtain ⟨k, ao1, c, rfl, hk, hH⟩ := hrel
            have hTk := hT2 k
            by_cases hlt : k < T
            · obtain ⟨hl1, hl2⟩ := hTk.2 hlt
              have hkM : (k : Int) < (1 : Int) := by omega
              have hk3 : (k : Int) < 300 := by omega
              obtain ⟨bb, off, hao, hcc⟩ := hx.at_ (by omega)
              obtain ⟨z1, z2, z3⟩ := hx.z k hl1
              subst hao
              have hs := seg_head (V := V) hlt
              rw [hVk] at hs
              have hlen : seg V k T = seg V k T := rfl
              go_wp2_with (first | (go_at_call 14; refine (take_row_some w.heap.size (1 : Int) _ _ _ _ hH.st.heap (A k) (L k) (C k) _ hH.row hs (by omega)).mono ?_; rintro e w3 ⟨rfl, ao3, c3, hr3, hg3, ht3, hs3⟩; have hN := hH.next hr3 hg3 ht3 hs3; rw [seg_drop, show T - k - 1 = T - (k + 1) from (by omega)] at hN; have e0 : w3.cell? ⟨bb, off + k, none⟩ = some (.slice (A k) (L k) (C k)) := (hN.b.cell (World.block_lt_of_cell? w _ (hcc k hl1))).trans (hcc k hl1)) | (go_at_call 15; refine (same_self (A k) (L k) (C k) (Z k) _ z1 z2 (fun a ha c hc => (hN.b.cell (World.block_lt_of_cell? w _ (z3 a ha c hc))).trans (z3 a ha c hc))).mono ?_; rintro e w4 ⟨rfl, rfl⟩))
              exact ⟨⟨k + 1, ao3, c3, by go_num, by omega, hN⟩, by simp [intOf]; omega⟩
            · have hz : T - k = 0 := by omega
              rw [hz] at hH
              have hle : ¬(k < len ∧ (k : Int) < (1 : Int)) := fun h => hlt (hTk.1 ⟨h.1, by omega⟩)
              by_cases hkl : k < len
              · have hkM : ¬(k : Int) < (1 : Int) := fun h => hle ⟨hkl, h⟩
                go_wp2_with (first | (go_at_call 14; refine (take_row_none w.heap.size (1 : Int) _ _ _ _ hH.st.heap rfl).mono ?_; rintro e w3 ⟨rfl, hb3⟩; have hH3 := hH.below hb3) | (go_at_call 16; refine (len_row w.heap.size (1 : Int) _ _ _ _ hH3.st.heap (by omega)).mono ?_; rintro e w4 ⟨rfl, hb4⟩))
                exact bodyPost_ret (v := .bool true) (by first | rfl | (simp [results]; done) | (simp [results]; rfl)) rfl ⟨rfl, (hH3.below hb4).b⟩
              · go_wp2_with (first | (go_at_call 14; refine (take_row_none w.heap.size (1 : Int) _ _ _ _ hH.st.heap rfl).mono ?_; rintro e w3 ⟨rfl, hb3⟩; have hH3 := hH.below hb3) | (go_at_call 16; refine (len_row w.heap.size (1 : Int) _ _ _ _ hH3.st.heap (by omega)).mono ?_; rintro e w4 ⟨rfl, hb4⟩))
                exact bodyPost_ret (v := .bool true) (by first | rfl | (simp [results]; done) | (simp [results]; rfl)) rfl ⟨rfl, (hH3.below hb4).b⟩
end Go.Proofs.Ytplpmnippkkkkaa
