/- PostPlays, walked. No condition. -/
import Derived.Test.YtplpmnippkkkkaaPo8
namespace Go.Proofs.Ytplpmnippkkkkaa
open Go Go.RowKit
set_option linter.unusedVariables false
set_option linter.unusedSimpArgs false

def strs (l : List ByteArray) : List Value := l.map Value.string
theorem strs_len (l : List ByteArray) : (strs l).length = l.length := by simp [strs]
theorem strs_snoc (l : List ByteArray) (x : ByteArray) : strs l ++ [.string x] = strs (l ++ [x]) := by simp [strs]
/-- the post, and the row that stands for it -/
structure Two (w0 wr : World) (pb : Nat) (most : Int) (ao : Option Addr) (c : Nat) (aq : Option Addr) (cq : Nat) (xs ys : List ByteArray) : Prop where
  p : Here 69 w0 wr pb most ao xs.length c (strs xs)
  q : RowAt wr pb aq ys.length cq (strs ys)
  g : 0 < cq → ∀ g o, aq = some ⟨g, o, none⟩ → w0.heap.size ≤ g
  ne : 0 < cq → 0 < c → ∀ g o g2 o2, aq = some ⟨g, o, none⟩ → ao = some ⟨g2, o2, none⟩ → g ≠ g2
theorem Two.pcall {w0 wr w1 : World} {pb c c' cq : Nat} {most : Int} {ao ao' aq : Option Addr} {xs xs' ys : List ByteArray} (h : Two w0 wr pb most ao c aq cq xs ys) (hr : RowAt w1 pb ao' xs'.length c' (strs xs')) (hg : Grow wr ao c ao' c') (ht : Touch wr w1 pb ao c) (hs : StAt w1 pb 69 #[.int .i64 most, .slice ao' xs'.length c']) :
    Two w0 w1 pb most ao' c' aq cq xs' ys :=
  ⟨h.p.next hr hg ht hs, ⟨h.q.len, h.q.le, h.q.max, fun hc => by
    obtain ⟨g, o, cur, tc, h1, h2, h3, h4, h5⟩ := h.q.row hc
    exact ⟨g, o, cur, tc, h1, h2, (ht.keep g (Sx.heap_lt h3) h2 (fun hk g2 o2 e => h.ne hc hk g o g2 o2 h1 e)).trans h3, h4, h5⟩⟩, h.g, fun hc hc' g o g2 o2 e e2 => by
    obtain ⟨g', o', cur, tc, h1, h2, h3, h4, h5⟩ := h.q.row hc
    rw [h1] at e
    cases e
    rcases hg hc' g2 o2 e2 with h6 | ⟨h6, o3, h7⟩
    · have := Sx.heap_lt h3
      omega
    · exact h.ne hc h6 _ _ _ _ h1 h7⟩
theorem Two.below {w0 wr w1 : World} {pb c cq : Nat} {most : Int} {ao aq : Option Addr} {xs ys : List ByteArray} (h : Two w0 wr pb most ao c aq cq xs ys) (hb : Below wr.heap.size wr w1) : Two w0 w1 pb most ao c aq cq xs ys :=
  ⟨h.p.below hb, h.q.below hb, h.g, h.ne⟩
theorem Two.qcall {w0 wr w1 : World} {pb c cq cq' : Nat} {most : Int} {ao aq aq' : Option Addr} {xs ys ys' : List ByteArray} (h : Two w0 wr pb most ao c aq cq xs ys) (hg : Grow wr aq cq aq' cq') (hr : RowAt w1 pb aq' ys'.length cq' (strs ys')) (ht : Touch wr w1 pb aq cq) (hs : ∀ t cs, StAt wr pb t cs → StAt w1 pb t cs) :
    Two w0 w1 pb most ao c aq' cq' xs ys' :=
  ⟨⟨hs _ _ h.p.st, ⟨h.p.row.len, h.p.row.le, h.p.row.max, fun hc => by
      obtain ⟨g, o, cur, tc, h1, h2, h3, h4, h5⟩ := h.p.row.row hc
      exact ⟨g, o, cur, tc, h1, h2, (ht.keep g (Sx.heap_lt h3) h2 (fun hk g2 o2 e => Ne.symm (h.ne hk hc g2 o2 g o e h1))).trans h3, h4, h5⟩⟩, h.p.pb, h.p.g, Touch.after h.p.b ht h.p.sz h.p.pb h.g⟩, hr, fun hc g o e => by
    rcases hg hc g o e with h1 | ⟨h1, o', h2⟩
    · exact Nat.le_trans h.p.sz h1
    · exact h.g h1 g o' h2, fun hc hc2 g o g2 o2 e e2 => by
    obtain ⟨g', o', cur, tc, h1, h2, h3, h4, h5⟩ := h.p.row.row hc2
    rw [h1] at e2
    cases e2
    rcases hg hc g o e with h6 | ⟨h6, o3, h7⟩
    · have := Sx.heap_lt h3
      omega
    · exact h.ne h6 hc2 _ _ _ _ h7 h1⟩
theorem Two.qdrop {w0 wr : World} {pb c cq : Nat} {most : Int} {ao : Option Addr} {g o : Nat} {xs ys : List ByteArray} (h : Two w0 wr pb most ao c (some ⟨g, o, none⟩) cq xs ys) (h0 : 0 < ys.length) : Two w0 wr pb most ao c (some ⟨g, o + 1, none⟩) (cq - 1) xs (ys.drop 1) :=
  ⟨h.p, by
    have hle := h.q.le
    obtain ⟨g', o', cur, tc, h1, h2, h3, h4, h5⟩ := h.q.row (by omega)
    cases h1
    refine ⟨by simp [strs], by simp; omega, by have := h.q.max; omega, fun hc => ⟨_, _, cur, tc, rfl, h2, h3, by omega, fun i hi => ?_⟩⟩
    have := h5 (i + 1) (by simp at hi; omega)
    rw [show o + 1 + i = o + (i + 1) by omega, this]
    simp [strs], fun hc g2 o2 e => by cases e; exact h.g (by omega) _ _ rfl, fun hc hc2 g2 o2 g3 o3 e e2 => by cases e; exact h.ne (by omega) hc2 _ _ _ _ rfl e2⟩
theorem Two.qnil {w0 wr : World} {pb c cq : Nat} {most : Int} {ao aq : Option Addr} {xs ys : List ByteArray} (h : Two w0 wr pb most ao c aq cq xs ys) : Two w0 wr pb most ao c none 0 xs [] :=
  ⟨h.p, ⟨rfl, Nat.le_refl _, Nat.zero_le _, fun h => by omega⟩, fun h => by omega, fun h => by omega⟩
theorem Two.any {w0 wr : World} {pb c cq : Nat} {most : Int} {ao aq aq' : Option Addr} {xs ys : List ByteArray} (h : Two w0 wr pb most ao c aq cq xs ys) (h0 : cq = 0) : Two w0 wr pb most ao c aq' cq xs ys :=
  ⟨h.p, ⟨h.q.len, h.q.le, h.q.max, fun h => by omega⟩, fun h => by omega, fun h => by omega⟩
/-- the moves that came -/
structure Moves (w : World) (ao : Option Addr) (len : Nat) (O : Nat → Int) (S : Nat → ByteArray) : Prop where
  at_ : 0 < len → ∃ b off, ao = some ⟨b, off, none⟩ ∧ ∀ i, i < len → w.cell? ⟨b, off + i * 2, none⟩ = some (.int .i64 (O i)) ∧ w.cell? ⟨b, off + i * 2 + 1, none⟩ = some (.string (S i))
set_option maxHeartbeats 8000000 in
set_option maxRecDepth 100000 in
theorem plays_mid (m : Int) (al : Option Addr) (len cap : Nat) (O : Nat → Int) (S : Nat → ByteArray) (w : World) (m0 : 1 < m) (m1 : m ≤ 1000) (hm : len ≤ 9223372036854775807) (hx : Moves w al len O S) :
    Calls Try.prog 6 #[.int .i64 m, .slice al len cap] w fun e w' => e = .returned (.bool true) ∧ Below w.heap.size w w' := by
  have hMm : min (max m 1) 1000 = m := by omega
  go_enter Try.func6, Try.ntmps6
  go_wp2_with (first | (go_at_call 17; refine (new_str _ _ (by omega) (by omega)).mono ?_; rintro e w1 ⟨rfl, hb1, hs1⟩; rw [hMm] at hs1) | (go_at_call 9; refine (awake_any _).mono ?_; rintro e w2 ⟨rfl, hb2⟩))
  go_loopw [7, 8] (fun q i wr => ∃ (k : Nat) (ao : Option Addr) (c : Nat) (aq : Option Addr) (cq : Nat) (ys : List ByteArray), i = .int .i64 k ∧ q = .slice aq ys.length cq ∧ k ≤ len ∧ k ≤ 200 ∧ (ys.length : Int) ≤ m ∧ Two w wr w.heap.size m ao c aq cq ys ys)
    (fun _ i _ => 200 - (intOf i).toNat)
  case atStart => exact ⟨0, none, 0, none, 0, [], rfl, rfl, by omega, by omega, by first | (simp; done) | (simp; omega), ⟨⟨hs1.below hb2, ⟨rfl, Nat.le_refl _, Nat.zero_le _, fun h => by omega⟩, Nat.le_refl _, fun h => by omega, via hb1 hb2⟩, ⟨rfl, Nat.le_refl _, Nat.zero_le _, fun h => by omega⟩, fun h => by omega, fun h => by omega⟩⟩
  case round =>
    obtain ⟨k, ao, c, aq, cq, ys, rfl, rfl, hk, hk2, hle, hT⟩ := hrel
    clear hs1 hb1 hb2
    by_cases hlt : k < len ∧ k < 200
    · obtain ⟨hl1, hl2⟩ := hlt
      have hl2' : (k : Int) < 200 := by omega
      obtain ⟨bb, off, hao, hcc⟩ := hx.at_ (by omega)
      subst hao
      obtain ⟨g0, g1⟩ := hcc k hl1
      have e0 : ∀ w3, Below w.heap.size w w3 → w3.cell? ⟨bb, off + k * 2, none⟩ = some (.int .i64 (O k)) := fun w3 hb => (hb.cell (World.block_lt_of_cell? w _ g0)).trans g0
      have e1 : ∀ w3, Below w.heap.size w w3 → w3.cell? ⟨bb, off + k * 2 + 1, none⟩ = some (.string (S k)) := fun w3 hb => (hb.cell (World.block_lt_of_cell? w _ g1)).trans g1
      have f0 := e0 _ hT.p.b
      have f1 := e1 _ hT.p.b
      by_cases h1 : O k = 1
      · rw [h1] at f0
        cases ys with
        | nil =>
          go_wp2_with (first | (go_at_call 25; refine (take_str_none w.heap.size m _ _ _ _ hT.p.st.heap rfl).mono ?_; rintro e w3 ⟨rfl, hb3⟩; have hT3 := hT.below hb3) | (go_at_call 24; refine (len_str w.heap.size m _ _ _ _ hT3.p.st.heap (by simp)).mono ?_; rintro e w4 ⟨rfl, hb4⟩; have hT4 := hT3.below hb4))
          exact ⟨⟨k + 1, ao, c, aq, cq, [], by go_num, rfl, by omega, by omega, by first | (simp; done) | (simp; omega), hT4⟩, by simp [intOf]; omega⟩
        | cons y ys =>
          have hcap : ys.length + 1 ≤ cq := hT.q.le
          have hle' : (ys.length : Int) + 1 ≤ m := by simpa using hle
          obtain ⟨gq, oq, cur, tc, haq, hq2, hq3, hq4, hq5⟩ := hT.q.row (by omega)
          subst haq
          clear hq2 hq3 hq4 hq5 cur tc
          go_wp2_with (first | (go_at_call 25; refine (take_str_some w.heap.size m _ _ _ _ hT.p.st.heap y _ hT.p.row rfl (by simp; omega)).mono ?_; rintro e w3 ⟨rfl, ao3, c3, hr3, hg3, ht3, hs3⟩; have hT3 : Two w w3 w.heap.size m ao3 c3 _ cq ys (y :: ys) := hT.pcall hr3 hg3 ht3 hs3; obtain ⟨gq', oq', cur, tc, haq, hq2, hq3, hq4, hq5⟩ := hT3.q.row (by omega); cases haq; have c0 : w3.cell? ⟨gq, oq, none⟩ = some (.string y) := (by simp only [World.cell?, hq3]; exact hq5 0 (by simp)); clear hq2 hq3 hq4 hq5) | (go_at_call 24; refine (len_str w.heap.size m _ _ _ _ hT3.p.st.heap (by omega)).mono ?_; rintro e w4 ⟨rfl, hb4⟩; have hT4 := (hT3.qdrop (by simp)).below hb4))
          exact ⟨⟨k + 1, ao3, c3, _, cq - 1, ys, by go_num, rfl, by omega, by omega, by omega, (by
            split
            · exact hT4.any (by omega)
            · exact hT4)⟩, by simp [intOf]; omega⟩
      · by_cases h2 : O k = 2
        · rw [h2] at f0
          go_wp2_with (first | (go_at_call 26; refine (clear_str w.heap.size m _ _ _ _ hT.p.st.heap).mono ?_; rintro e w3 ⟨rfl, hr3, ht3, hs3⟩; have hT3 : Two w w3 w.heap.size m none 0 none 0 [] [] := (hT.pcall (xs' := []) hr3 (fun h => (by omega)) ht3 hs3).qnil) | (go_at_call 24; refine (len_str w.heap.size m _ _ _ _ hT3.p.st.heap (by simp)).mono ?_; rintro e w4 ⟨rfl, hb4⟩; have hT4 := hT3.below hb4))
          exact ⟨⟨k + 1, none, 0, none, 0, [], by go_num, rfl, by omega, by omega, by first | (simp; done) | (simp; omega), hT4⟩, by simp [intOf]; omega⟩
        · by_cases hr : (ys.length : Int) < m
          · obtain ⟨inf, hi, hz, hi1, hby⟩ := elem_9
            obtain ⟨z, hz0, hz1⟩ := hz
            go_wp2_with (first | (go_at_call 19; refine (add_str_room w.heap.size m _ _ _ _ hT.p.st.heap (S k) _ hT.p.row hr (by omega)).mono ?_; rintro e w3 ⟨rfl, ao3, c3, hr3, hg3, ht3, hs3⟩; rw [strs_snoc] at hr3; have hT3 : Two w w3 w.heap.size m ao3 c3 aq cq (ys ++ [S k]) ys := hT.pcall (by simpa using hr3) hg3 ht3 (by simpa using hs3); have f3 := e1 _ hT3.p.b) | (at_builtin; refine wpList_append_obj _ rfl _ _ 49 rfl Try.underlying49 hi hz0 hz1 hi1 (pb := w.heap.size) (xs := strs ys) rfl (hT3.q.below (by repeat (first | with_reducible exact Below.refl _ _ | with_reducible refine Below.drew ?_ | with_reducible refine bdn ?_ _ | with_reducible refine bal ?_ _ | with_reducible refine via ?_ (by with_reducible assumption)))) (v := .string (S k)) rfl ?cv rfl ?bb ?mx ?lt ?go))
            case cv => exact alloc_cell rfl
            case bb => rw [hby]; omega
            case mx => simp only [maxLen]; omega
            case lt => have := hT3.p.st.lt; simp; omega
            case go =>
              intro aq' cq' w5 hg5 hr5 ht5 hp5
              rw [strs_snoc] at hr5
              have hT5 : Two w w5 w.heap.size m ao3 c3 aq' cq' (ys ++ [S k]) (ys ++ [S k]) := (hT3.below (bal (Below.refl _ _) _)).qcall hg5 (by simpa using hr5) ht5 hp5
              go_wp2_with (go_at_call 24; refine (len_str w.heap.size m _ _ _ _ hT5.p.st.heap (by simp; omega)).mono ?_; rintro e w6 ⟨rfl, hb6⟩; have hT6 := hT5.below hb6)
              exact ⟨⟨k + 1, ao3, c3, aq', cq', ys ++ [S k], by go_num, by simp, by omega, by omega, by first | (simp; done) | (simp; omega), hT6⟩, by simp [intOf]; omega⟩
          · go_wp2_with (first | (go_at_call 19; refine (add_str_full w.heap.size m _ _ _ _ hT.p.st.heap (S k) (by omega)).mono ?_; rintro e w3 ⟨rfl, hb3⟩; have hT3 := hT.below hb3) | (go_at_call 24; refine (len_str w.heap.size m _ _ _ _ hT3.p.st.heap (by omega)).mono ?_; rintro e w4 ⟨rfl, hb4⟩; have hT4 := hT3.below hb4))
            exact ⟨⟨k + 1, ao, c, aq, cq, ys, by go_num, rfl, by omega, by omega, hle, hT4⟩, by simp [intOf]; omega⟩
    · have hle2 : ¬(k < len ∧ (k : Int) < 200) := fun h => hlt ⟨h.1, by omega⟩
      by_cases hkl : k < len
      · have hkM : ¬(k : Int) < 200 := fun h => hle2 ⟨hkl, h⟩
        go_wp2
        exact bodyPost_ret (v := .bool true) (by first | rfl | (simp [results]; done) | (simp [results]; rfl)) rfl ⟨rfl, hT.p.b⟩
      · go_wp2
        exact bodyPost_ret (v := .bool true) (by first | rfl | (simp [results]; done) | (simp [results]; rfl)) rfl ⟨rfl, hT.p.b⟩
set_option maxHeartbeats 8000000 in
set_option maxRecDepth 100000 in
theorem plays_low (m : Int) (al : Option Addr) (len cap : Nat) (O : Nat → Int) (S : Nat → ByteArray) (w : World) (m0 : -9223372036854775808 ≤ m) (m1 : m ≤ 1) (hm : len ≤ 9223372036854775807) (hx : Moves w al len O S) :
    Calls Try.prog 6 #[.int .i64 m, .slice al len cap] w fun e w' => e = .returned (.bool true) ∧ Below w.heap.size w w' := by
  have hMm : min (max m 1) 1000 = 1 := by omega
  go_enter Try.func6, Try.ntmps6
  go_wp2_with (first | (go_at_call 17; refine (new_str _ _ (by omega) (by omega)).mono ?_; rintro e w1 ⟨rfl, hb1, hs1⟩; rw [hMm] at hs1) | (go_at_call 9; refine (awake_any _).mono ?_; rintro e w2 ⟨rfl, hb2⟩))
  go_loopw [7, 8] (fun q i wr => ∃ (k : Nat) (ao : Option Addr) (c : Nat) (aq : Option Addr) (cq : Nat) (ys : List ByteArray), i = .int .i64 k ∧ q = .slice aq ys.length cq ∧ k ≤ len ∧ k ≤ 200 ∧ (ys.length : Int) ≤ 1 ∧ Two w wr w.heap.size 1 ao c aq cq ys ys)
    (fun _ i _ => 200 - (intOf i).toNat)
  case atStart => exact ⟨0, none, 0, none, 0, [], rfl, rfl, by omega, by omega, by first | (simp; done) | (simp; omega), ⟨⟨hs1.below hb2, ⟨rfl, Nat.le_refl _, Nat.zero_le _, fun h => by omega⟩, Nat.le_refl _, fun h => by omega, via hb1 hb2⟩, ⟨rfl, Nat.le_refl _, Nat.zero_le _, fun h => by omega⟩, fun h => by omega, fun h => by omega⟩⟩
  case round =>
    obtain ⟨k, ao, c, aq, cq, ys, rfl, rfl, hk, hk2, hle, hT⟩ := hrel
    clear hs1 hb1 hb2
    by_cases hlt : k < len ∧ k < 200
    · obtain ⟨hl1, hl2⟩ := hlt
      have hl2' : (k : Int) < 200 := by omega
      obtain ⟨bb, off, hao, hcc⟩ := hx.at_ (by omega)
      subst hao
      obtain ⟨g0, g1⟩ := hcc k hl1
      have e0 : ∀ w3, Below w.heap.size w w3 → w3.cell? ⟨bb, off + k * 2, none⟩ = some (.int .i64 (O k)) := fun w3 hb => (hb.cell (World.block_lt_of_cell? w _ g0)).trans g0
      have e1 : ∀ w3, Below w.heap.size w w3 → w3.cell? ⟨bb, off + k * 2 + 1, none⟩ = some (.string (S k)) := fun w3 hb => (hb.cell (World.block_lt_of_cell? w _ g1)).trans g1
      have f0 := e0 _ hT.p.b
      have f1 := e1 _ hT.p.b
      by_cases h1 : O k = 1
      · rw [h1] at f0
        cases ys with
        | nil =>
          go_wp2_with (first | (go_at_call 25; refine (take_str_none w.heap.size 1 _ _ _ _ hT.p.st.heap rfl).mono ?_; rintro e w3 ⟨rfl, hb3⟩; have hT3 := hT.below hb3) | (go_at_call 24; refine (len_str w.heap.size 1 _ _ _ _ hT3.p.st.heap (by simp)).mono ?_; rintro e w4 ⟨rfl, hb4⟩; have hT4 := hT3.below hb4))
          exact ⟨⟨k + 1, ao, c, aq, cq, [], by go_num, rfl, by omega, by omega, by first | (simp; done) | (simp; omega), hT4⟩, by simp [intOf]; omega⟩
        | cons y ys =>
          have hcap : ys.length + 1 ≤ cq := hT.q.le
          have hle' : (ys.length : Int) + 1 ≤ 1 := by simpa using hle
          obtain ⟨gq, oq, cur, tc, haq, hq2, hq3, hq4, hq5⟩ := hT.q.row (by omega)
          subst haq
          clear hq2 hq3 hq4 hq5 cur tc
          go_wp2_with (first | (go_at_call 25; refine (take_str_some w.heap.size 1 _ _ _ _ hT.p.st.heap y _ hT.p.row rfl (by simp; omega)).mono ?_; rintro e w3 ⟨rfl, ao3, c3, hr3, hg3, ht3, hs3⟩; have hT3 : Two w w3 w.heap.size 1 ao3 c3 _ cq ys (y :: ys) := hT.pcall hr3 hg3 ht3 hs3; obtain ⟨gq', oq', cur, tc, haq, hq2, hq3, hq4, hq5⟩ := hT3.q.row (by omega); cases haq; have c0 : w3.cell? ⟨gq, oq, none⟩ = some (.string y) := (by simp only [World.cell?, hq3]; exact hq5 0 (by simp)); clear hq2 hq3 hq4 hq5) | (go_at_call 24; refine (len_str w.heap.size 1 _ _ _ _ hT3.p.st.heap (by omega)).mono ?_; rintro e w4 ⟨rfl, hb4⟩; have hT4 := (hT3.qdrop (by simp)).below hb4))
          exact ⟨⟨k + 1, ao3, c3, _, cq - 1, ys, by go_num, rfl, by omega, by omega, by omega, (by
            split
            · exact hT4.any (by omega)
            · exact hT4)⟩, by simp [intOf]; omega⟩
      · by_cases h2 : O k = 2
        · rw [h2] at f0
          go_wp2_with (first | (go_at_call 26; refine (clear_str w.heap.size 1 _ _ _ _ hT.p.st.heap).mono ?_; rintro e w3 ⟨rfl, hr3, ht3, hs3⟩; have hT3 : Two w w3 w.heap.size 1 none 0 none 0 [] [] := (hT.pcall (xs' := []) hr3 (fun h => (by omega)) ht3 hs3).qnil) | (go_at_call 24; refine (len_str w.heap.size 1 _ _ _ _ hT3.p.st.heap (by simp)).mono ?_; rintro e w4 ⟨rfl, hb4⟩; have hT4 := hT3.below hb4))
          exact ⟨⟨k + 1, none, 0, none, 0, [], by go_num, rfl, by omega, by omega, by first | (simp; done) | (simp; omega), hT4⟩, by simp [intOf]; omega⟩
        · by_cases hr : (ys.length : Int) < 1
          · obtain ⟨inf, hi, hz, hi1, hby⟩ := elem_9
            obtain ⟨z, hz0, hz1⟩ := hz
            go_wp2_with (first | (go_at_call 19; refine (add_str_room w.heap.size 1 _ _ _ _ hT.p.st.heap (S k) _ hT.p.row hr (by omega)).mono ?_; rintro e w3 ⟨rfl, ao3, c3, hr3, hg3, ht3, hs3⟩; rw [strs_snoc] at hr3; have hT3 : Two w w3 w.heap.size 1 ao3 c3 aq cq (ys ++ [S k]) ys := hT.pcall (by simpa using hr3) hg3 ht3 (by simpa using hs3); have f3 := e1 _ hT3.p.b) | (at_builtin; refine wpList_append_obj _ rfl _ _ 49 rfl Try.underlying49 hi hz0 hz1 hi1 (pb := w.heap.size) (xs := strs ys) rfl (hT3.q.below (by repeat (first | with_reducible exact Below.refl _ _ | with_reducible refine Below.drew ?_ | with_reducible refine bdn ?_ _ | with_reducible refine bal ?_ _ | with_reducible refine via ?_ (by with_reducible assumption)))) (v := .string (S k)) rfl ?cv rfl ?bb ?mx ?lt ?go))
            case cv => exact alloc_cell rfl
            case bb => rw [hby]; omega
            case mx => simp only [maxLen]; omega
            case lt => have := hT3.p.st.lt; simp; omega
            case go =>
              intro aq' cq' w5 hg5 hr5 ht5 hp5
              rw [strs_snoc] at hr5
              have hT5 : Two w w5 w.heap.size 1 ao3 c3 aq' cq' (ys ++ [S k]) (ys ++ [S k]) := (hT3.below (bal (Below.refl _ _) _)).qcall hg5 (by simpa using hr5) ht5 hp5
              go_wp2_with (go_at_call 24; refine (len_str w.heap.size 1 _ _ _ _ hT5.p.st.heap (by simp; omega)).mono ?_; rintro e w6 ⟨rfl, hb6⟩; have hT6 := hT5.below hb6)
              exact ⟨⟨k + 1, ao3, c3, aq', cq', ys ++ [S k], by go_num, by simp, by omega, by omega, by first | (simp; done) | (simp; omega), hT6⟩, by simp [intOf]; omega⟩
          · go_wp2_with (first | (go_at_call 19; refine (add_str_full w.heap.size 1 _ _ _ _ hT.p.st.heap (S k) (by omega)).mono ?_; rintro e w3 ⟨rfl, hb3⟩; have hT3 := hT.below hb3) | (go_at_call 24; refine (len_str w.heap.size 1 _ _ _ _ hT3.p.st.heap (by omega)).mono ?_; rintro e w4 ⟨rfl, hb4⟩; have hT4 := hT3.below hb4))
            exact ⟨⟨k + 1, ao, c, aq, cq, ys, by go_num, rfl, by omega, by omega, hle, hT4⟩, by simp [intOf]; omega⟩
    · have hle2 : ¬(k < len ∧ (k : Int) < 200) := fun h => hlt ⟨h.1, by omega⟩
      by_cases hkl : k < len
      · have hkM : ¬(k : Int) < 200 := fun h => hle2 ⟨hkl, h⟩
        go_wp2
        exact bodyPost_ret (v := .bool true) (by first | rfl | (simp [results]; done) | (simp [results]; rfl)) rfl ⟨rfl, hT.p.b⟩
      · go_wp2
        exact bodyPost_ret (v := .bool true) (by first | rfl | (simp [results]; done) | (simp [results]; rfl)) rfl ⟨rfl, hT.p.b⟩
set_option maxHeartbeats 8000000 in
set_option maxRecDepth 100000 in
theorem plays_top (m : Int) (al : Option Addr) (len cap : Nat) (O : Nat → Int) (S : Nat → ByteArray) (w : World) (m0 : 1000 < m) (m1 : m ≤ 9223372036854775807) (hm : len ≤ 9223372036854775807) (hx : Moves w al len O S) :
    Calls Try.prog 6 #[.int .i64 m, .slice al len cap] w fun e w' => e = .returned (.bool true) ∧ Below w.heap.size w w' := by
  have hMm : min (max m 1) 1000 = 1000 := by omega
  go_enter Try.func6, Try.ntmps6
  go_wp2_with (first | (go_at_call 17; refine (new_str _ _ (by omega) (by omega)).mono ?_; rintro e w1 ⟨rfl, hb1, hs1⟩; rw [hMm] at hs1) | (go_at_call 9; refine (awake_any _).mono ?_; rintro e w2 ⟨rfl, hb2⟩))
  go_loopw [7, 8] (fun q i wr => ∃ (k : Nat) (ao : Option Addr) (c : Nat) (aq : Option Addr) (cq : Nat) (ys : List ByteArray), i = .int .i64 k ∧ q = .slice aq ys.length cq ∧ k ≤ len ∧ k ≤ 200 ∧ (ys.length : Int) ≤ 1000 ∧ Two w wr w.heap.size 1000 ao c aq cq ys ys)
    (fun _ i _ => 200 - (intOf i).toNat)
  case atStart => exact ⟨0, none, 0, none, 0, [], rfl, rfl, by omega, by omega, by first | (simp; done) | (simp; omega), ⟨⟨hs1.below hb2, ⟨rfl, Nat.le_refl _, Nat.zero_le _, fun h => by omega⟩, Nat.le_refl _, fun h => by omega, via hb1 hb2⟩, ⟨rfl, Nat.le_refl _, Nat.zero_le _, fun h => by omega⟩, fun h => by omega, fun h => by omega⟩⟩
  case round =>
    obtain ⟨k, ao, c, aq, cq, ys, rfl, rfl, hk, hk2, hle, hT⟩ := hrel
    clear hs1 hb1 hb2
    by_cases hlt : k < len ∧ k < 200
    · obtain ⟨hl1, hl2⟩ := hlt
      have hl2' : (k : Int) < 200 := by omega
      obtain ⟨bb, off, hao, hcc⟩ := hx.at_ (by omega)
      subst hao
      obtain ⟨g0, g1⟩ := hcc k hl1
      have e0 : ∀ w3, Below w.heap.size w w3 → w3.cell? ⟨bb, off + k * 2, none⟩ = some (.int .i64 (O k)) := fun w3 hb => (hb.cell (World.block_lt_of_cell? w _ g0)).trans g0
      have e1 : ∀ w3, Below w.heap.size w w3 → w3.cell? ⟨bb, off + k * 2 + 1, none⟩ = some (.string (S k)) := fun w3 hb => (hb.cell (World.block_lt_of_cell? w _ g1)).trans g1
      have f0 := e0 _ hT.p.b
      have f1 := e1 _ hT.p.b
      by_cases h1 : O k = 1
      · rw [h1] at f0
        cases ys with
        | nil =>
          go_wp2_with (first | (go_at_call 25; refine (take_str_none w.heap.size 1000 _ _ _ _ hT.p.st.heap rfl).mono ?_; rintro e w3 ⟨rfl, hb3⟩; have hT3 := hT.below hb3) | (go_at_call 24; refine (len_str w.heap.size 1000 _ _ _ _ hT3.p.st.heap (by simp)).mono ?_; rintro e w4 ⟨rfl, hb4⟩; have hT4 := hT3.below hb4))
          exact ⟨⟨k + 1, ao, c, aq, cq, [], by go_num, rfl, by omega, by omega, by first | (simp; done) | (simp; omega), hT4⟩, by simp [intOf]; omega⟩
        | cons y ys =>
          have hcap : ys.length + 1 ≤ cq := hT.q.le
          have hle' : (ys.length : Int) + 1 ≤ 1000 := by simpa using hle
          obtain ⟨gq, oq, cur, tc, haq, hq2, hq3, hq4, hq5⟩ := hT.q.row (by omega)
          subst haq
          clear hq2 hq3 hq4 hq5 cur tc
          go_wp2_with (first | (go_at_call 25; refine (take_str_some w.heap.size 1000 _ _ _ _ hT.p.st.heap y _ hT.p.row rfl (by simp; omega)).mono ?_; rintro e w3 ⟨rfl, ao3, c3, hr3, hg3, ht3, hs3⟩; have hT3 : Two w w3 w.heap.size 1000 ao3 c3 _ cq ys (y :: ys) := hT.pcall hr3 hg3 ht3 hs3; obtain ⟨gq', oq', cur, tc, haq, hq2, hq3, hq4, hq5⟩ := hT3.q.row (by omega); cases haq; have c0 : w3.cell? ⟨gq, oq, none⟩ = some (.string y) := (by simp only [World.cell?, hq3]; exact hq5 0 (by simp)); clear hq2 hq3 hq4 hq5) | (go_at_call 24; refine (len_str w.heap.size 1000 _ _ _ _ hT3.p.st.heap (by omega)).mono ?_; rintro e w4 ⟨rfl, hb4⟩; have hT4 := (hT3.qdrop (by simp)).below hb4))
          exact ⟨⟨k + 1, ao3, c3, _, cq - 1, ys, by go_num, rfl, by omega, by omega, by omega, (by
            split
            · exact hT4.any (by omega)
            · exact hT4)⟩, by simp [intOf]; omega⟩
      · by_cases h2 : O k = 2
        · rw [h2] at f0
          go_wp2_with (first | (go_at_call 26; refine (clear_str w.heap.size 1000 _ _ _ _ hT.p.st.heap).mono ?_; rintro e w3 ⟨rfl, hr3, ht3, hs3⟩; have hT3 : Two w w3 w.heap.size 1000 none 0 none 0 [] [] := (hT.pcall (xs' := []) hr3 (fun h => (by omega)) ht3 hs3).qnil) | (go_at_call 24; refine (len_str w.heap.size 1000 _ _ _ _ hT3.p.st.heap (by simp)).mono ?_; rintro e w4 ⟨rfl, hb4⟩; have hT4 := hT3.below hb4))
          exact ⟨⟨k + 1, none, 0, none, 0, [], by go_num, rfl, by omega, by omega, by first | (simp; done) | (simp; omega), hT4⟩, by simp [intOf]; omega⟩
        · by_cases hr : (ys.length : Int) < 1000
          · obtain ⟨inf, hi, hz, hi1, hby⟩ := elem_9
            obtain ⟨z, hz0, hz1⟩ := hz
            go_wp2_with (first | (go_at_call 19; refine (add_str_room w.heap.size 1000 _ _ _ _ hT.p.st.heap (S k) _ hT.p.row hr (by omega)).mono ?_; rintro e w3 ⟨rfl, ao3, c3, hr3, hg3, ht3, hs3⟩; rw [strs_snoc] at hr3; have hT3 : Two w w3 w.heap.size 1000 ao3 c3 aq cq (ys ++ [S k]) ys := hT.pcall (by simpa using hr3) hg3 ht3 (by simpa using hs3); have f3 := e1 _ hT3.p.b) | (at_builtin; refine wpList_append_obj _ rfl _ _ 49 rfl Try.underlying49 hi hz0 hz1 hi1 (pb := w.heap.size) (xs := strs ys) rfl (hT3.q.below (by repeat (first | with_reducible exact Below.refl _ _ | with_reducible refine Below.drew ?_ | with_reducible refine bdn ?_ _ | with_reducible refine bal ?_ _ | with_reducible refine via ?_ (by with_reducible assumption)))) (v := .string (S k)) rfl ?cv rfl ?bb ?mx ?lt ?go))
            case cv => exact alloc_cell rfl
            case bb => rw [hby]; omega
            case mx => simp only [maxLen]; omega
            case lt => have := hT3.p.st.lt; simp; omega
            case go =>
              intro aq' cq' w5 hg5 hr5 ht5 hp5
              rw [strs_snoc] at hr5
              have hT5 : Two w w5 w.heap.size 1000 ao3 c3 aq' cq' (ys ++ [S k]) (ys ++ [S k]) := (hT3.below (bal (Below.refl _ _) _)).qcall hg5 (by simpa using hr5) ht5 hp5
              go_wp2_with (go_at_call 24; refine (len_str w.heap.size 1000 _ _ _ _ hT5.p.st.heap (by simp; omega)).mono ?_; rintro e w6 ⟨rfl, hb6⟩; have hT6 := hT5.below hb6)
              exact ⟨⟨k + 1, ao3, c3, aq', cq', ys ++ [S k], by go_num, by simp, by omega, by omega, by first | (simp; done) | (simp; omega), hT6⟩, by simp [intOf]; omega⟩
          · go_wp2_with (first | (go_at_call 19; refine (add_str_full w.heap.size 1000 _ _ _ _ hT.p.st.heap (S k) (by omega)).mono ?_; rintro e w3 ⟨rfl, hb3⟩; have hT3 := hT.below hb3) | (go_at_call 24; refine (len_str w.heap.size 1000 _ _ _ _ hT3.p.st.heap (by omega)).mono ?_; rintro e w4 ⟨rfl, hb4⟩; have hT4 := hT3.below hb4))
            exact ⟨⟨k + 1, ao, c, aq, cq, ys, by go_num, rfl, by omega, by omega, hle, hT4⟩, by simp [intOf]; omega⟩
    · have hle2 : ¬(k < len ∧ (k : Int) < 200) := fun h => hlt ⟨h.1, by omega⟩
      by_cases hkl : k < len
      · have hkM : ¬(k : Int) < 200 := fun h => hle2 ⟨hkl, h⟩
        go_wp2
        exact bodyPost_ret (v := .bool true) (by first | rfl | (simp [results]; done) | (simp [results]; rfl)) rfl ⟨rfl, hT.p.b⟩
      · go_wp2
        exact bodyPost_ret (v := .bool true) (by first | rfl | (simp [results]; done) | (simp [results]; rfl)) rfl ⟨rfl, hT.p.b⟩
end Go.Proofs.Ytplpmnippkkkkaa
