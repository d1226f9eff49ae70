/- Laws over rows, from their reckoned claims. No condition. -/
import Derived.Test.YtpbcnhkdknmgjaaSxRf4
namespace Go.Proofs.Ytpbcnhkdknmgjaa.Sx
open Go Go.RowKit
set_option linter.unusedVariables false
set_option linter.unusedSimpArgs false

theorem Con1.law {P : Program} {Γ : Env} (hΓ : EnvOk P Γ) (hmix : P.follows .mixedOrders = true) {C : Ctl} {f : FuncId} {fn : Func} (hf : P.funcs[f]? = some fn) (hb : fn.body.isSome = true) (c : Con1)
    {L : List Leaf} {R : List Rw} (h : c.vc P Γ C fn L R) {vals : List Value} {w : World} {μ : Mu} (ha : AllV μ (instA c.pat L R 0) vals) (hM : HeapM μ (heapA c.pat R 0) w) (hd : Dom μ (rowsA c.pat)) (hx : ∀ n b l x, heapA c.pat R 0 n = some b → b.excl l = some x → False)
    (hout : ∀ rs, (c.out L (R.map Rw.L)).posts rs → rs = [c1B true]) : Calls P f vals.toArray w fun e w' => e = .returned (.bool true) ∧ Below w.heap.size w w' := by
  have hb' : fn.body = some (fn.body.getD .skip) := by
    cases hx : fn.body with
    | none => rw [hx] at hb; cases hb
    | some c => rfl
  refine (fn_sound hΓ hmix C hf hb' (I := fun _ => False) ha hM hd (fun n b l x hb hl hh => (hx n b l x hb hh).elim) h).mono fun e w' he => ?_
  obtain ⟨v, sv, μ', s, a, rfl, hm, hok, hk⟩ := he
  obtain ⟨rs, h1, h2⟩ := Out.mt1_posts hk
  obtain rfl := hout rs h1
  refine ⟨?_, ⟨hm.fr.os, hm.fr.tape, hm.fr.output, hm.fr.size, fun x hx => hm.fr.block x hx fun h => h⟩⟩
  unfold mR0 at h2
  split at h2
  · rename_i xs hxs
    match xs, h2 with
    | [x], h2 =>
      unfold svL at hxs
      split at hxs
      · cases hxs
        have := leS1_ok h2.1 hok
        rw [muNil] at this
        have e : v = .bool true := this
        rw [e]
      · cases hxs
      · rename_i ts hne
        cases hxs
        exact (hne x rfl).elim
      · cases hxs
    | [], h2 => exact h2.elim
    | _ :: _ :: _, h2 => exact h2.2.elim
  · exact h2.elim
/-- a row that came, as the reckoner's -/
theorem row_heap {k : IntKind} {L : List Int} {c : Nat} {w : World} {a : Option Addr} (hl : L.length ≤ c) (hm : c ≤ maxLen) (h : 0 < c → ∃ b off, a = some ⟨b, off, none⟩ ∧ ∀ i, i < L.length → w.cell? ⟨b, off + i, none⟩ = some (.int k (L.getD i 0))) :
    ∃ μ, HeapM μ (upd (fun _ => none) 0 (some (.ints k L))) w ∧ Dom μ 1 ∧ (one (.sli 0 0 1 0 L.length c false)).ok μ (.slice a L.length c) := by
  obtain ⟨b, off, ha, hc⟩ : ∃ b off, (0 < c → a = some ⟨b, off, none⟩) ∧ ∀ i, i < L.length → w.cell? ⟨b, off + i, none⟩ = some (.int k (L.getD i 0)) := by
    rcases Nat.eq_zero_or_pos c with h0 | h0
    · exact ⟨0, 0, fun h => by omega, fun i hi => by omega⟩
    · obtain ⟨b, off, h1, h2⟩ := h h0
      exact ⟨b, off, fun _ => h1, h2⟩
  let μ : Mu := fun n => if n = 0 then some ⟨b, off, undef⟩ else none
  have hn : ∀ n k', upd (fun _ => none) 0 (some (Blk.ints k L)) n = some k' → n = 0 ∧ k' = .ints k L := fun n k' h => by
    unfold upd at h
    split at h
    · cases h; rename_i e; exact ⟨e, rfl⟩
    · cases h
  refine ⟨μ, ⟨fun n b' hb => ?_, fun n m b' c' l k' x hne hb hc' => ?_⟩, fun n l hl => ?_, ⟨⟨b, off, undef⟩, a, by simp [μ], rfl, fun h => by simpa using ha h, hl, hm⟩⟩
  · obtain ⟨rfl, rfl⟩ := hn n b' hb
    refine ⟨⟨b, off, undef⟩, by simp [μ], fun h0 => World.block_lt_of_cell? w _ (hc 0 h0), fun y hy => ⟨rfl, fun j c hj => ?_⟩⟩
    match j, hj with
    | 0, hj =>
      simp [intsF] at hj
      subst hj
      exact ⟨_, by simpa using hc y hy, by simp [SC.ok, List.getD_eq_getElem?_getD]⟩
    | j + 1, hj => simp [intsF] at hj
  · obtain ⟨rfl, _⟩ := hn n b' hb
    obtain ⟨rfl, _⟩ := hn m c' hc'
    exact absurd rfl hne
  · simp only [μ] at hl
    split at hl
    · omega
    · cases hl
theorem row_excl {k : IntKind} {L : List Int} : ∀ (n : Nat) (b : Blk) (l : Loc) (x : Nat), upd (fun _ => none) 0 (some (Blk.ints k L)) n = some b → b.excl l = some x → False := fun n b l x hb hx => by
  unfold upd at hb
  split at hb
  · cases hb; cases hx
  · cases hb
theorem two_excl {k j : IntKind} {L M : List Int} : ∀ (n : Nat) (b : Blk) (l : Loc) (x : Nat), upd (upd (fun _ => none) 1 (some (Blk.ints j M))) 0 (some (Blk.ints k L)) n = some b → b.excl l = some x → False := fun n b l x hb hx => by
  unfold upd at hb
  split at hb
  · cases hb; cases hx
  · split at hb
    · cases hb; cases hx
    · cases hb
def RowAt (k : IntKind) (L : List Int) (c : Nat) (a : Option Addr) (w : World) : Prop := 0 < c → ∃ b off, a = some ⟨b, off, none⟩ ∧ ∀ i, i < L.length → w.cell? ⟨b, off + i, none⟩ = some (.int k (L.getD i 0))
theorem row_blk {k : IntKind} {L : List Int} {c : Nat} {w : World} {a : Option Addr} (hl : L.length ≤ c) (h : RowAt k L c a w) :
    ∃ b off, (0 < c → a = some ⟨b, off, none⟩) ∧ ∀ μ : Mu, (Blk.ints k L).ok μ w ⟨b, off, undef⟩ := by
  obtain ⟨b, off, ha, hc⟩ : ∃ b off, (0 < c → a = some ⟨b, off, none⟩) ∧ ∀ i, i < L.length → w.cell? ⟨b, off + i, none⟩ = some (.int k (L.getD i 0)) := by
    rcases Nat.eq_zero_or_pos c with h0 | h0
    · exact ⟨0, 0, fun h => by omega, fun i hi => by omega⟩
    · obtain ⟨b, off, h1, h2⟩ := h h0
      exact ⟨b, off, fun _ => h1, h2⟩
  refine ⟨b, off, ha, fun μ => ⟨fun h0 => World.block_lt_of_cell? w _ (hc 0 h0), fun y hy => ⟨rfl, fun j c hj => ?_⟩⟩⟩
  match j, hj with
  | 0, hj =>
    simp [intsF] at hj
    subst hj
    exact ⟨_, by simpa using hc y hy, by simp [SC.ok, List.getD_eq_getElem?_getD]⟩
  | j + 1, hj => simp [intsF] at hj
/-- two rows that came, as the reckoner's -/
theorem two_heap {k j : IntKind} {L M : List Int} {c d : Nat} {w : World} {a e : Option Addr} (hl : L.length ≤ c) (hm : c ≤ maxLen) (h : RowAt k L c a w) (hl2 : M.length ≤ d) (hm2 : d ≤ maxLen) (h2 : RowAt j M d e w) :
    ∃ μ, HeapM μ (upd (upd (fun _ => none) 1 (some (.ints j M))) 0 (some (.ints k L))) w ∧ Dom μ 2 ∧ (one (.sli 0 0 1 0 L.length c false)).ok μ (.slice a L.length c) ∧ (one (.sli 1 0 1 0 M.length d false)).ok μ (.slice e M.length d) := by
  obtain ⟨b, off, ha, hb⟩ := row_blk hl h
  obtain ⟨b', off', ha', hb'⟩ := row_blk hl2 h2
  let μ : Mu := fun n => if n = 0 then some ⟨b, off, undef⟩ else if n = 1 then some ⟨b', off', undef⟩ else none
  refine ⟨μ, ⟨fun n bk hbk => ?_, fun n m bk ck l k' x hne hbk hck hl' hk' hx => ?_⟩, fun n l hl => ?_, ⟨⟨b, off, undef⟩, a, by simp [μ], rfl, fun h => by simpa using ha h, hl, hm⟩, ⟨⟨b', off', undef⟩, e, by simp [μ], rfl, fun h => by simpa using ha' h, hl2, hm2⟩⟩
  · unfold upd at hbk
    split at hbk
    · rename_i e0; cases hbk; subst e0
      exact ⟨_, by simp [μ], hb μ⟩
    · split at hbk
      · rename_i e1; cases hbk; subst e1
        exact ⟨_, by simp [μ], hb' μ⟩
      · cases hbk
  · exact (two_excl n bk l x hbk hx).elim
  · simp only [μ] at hl
    split at hl
    · omega
    · split at hl
      · omega
      · cases hl
end Go.Proofs.Ytpbcnhkdknmgjaa.Sx
