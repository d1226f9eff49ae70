/- Laws from their reckoned claims; rows and views that came. No condition. -/
import Derived.Test.YtplpmnippkkkkaaPo6
import Derived.ChangeMaps5
import Derived.Deep.Fields
namespace Go.Proofs.Ytplpmnippkkkkaa.Sx
open Go Go.RowKit
set_option linter.unusedVariables false
set_option linter.unusedSimpArgs false

theorem lawVc_calls {P : Program} {Γ : Env} (hΓ : EnvOk P Γ) (hmix : P.follows .mixedOrders = true) {C : Ctl} {f : FuncId} {fn : Func} (hf : P.funcs[f]? = some fn) (hb : fn.body.isSome = true)
    {args : List SV} {h : Nat → Option Blk} {next : Nat} (hv : lawVc P Γ C fn args h next) {vals : List Value} {w : World} {μ : Mu} (ha : AllV μ args vals) (hM : HeapM μ h w) (hd : Dom μ next) (hx : ∀ n b l x, h n = some b → ¬b.excl w l x) :
    Calls P f vals.toArray w fun e w' => e = .returned (.bool true) ∧ Below w.heap.size w w' := by
  have hb' : fn.body = some (fn.body.getD .skip) := by
    cases hx : fn.body with
    | none => rw [hx] at hb; cases hb
    | some c => rfl
  refine (fn_sound hΓ hmix C hf hb' (I := fun _ => False) ha hM hd (fun n b l x hb hl hh => (hx n b l x hb hh).elim) hv).mono fun e w' he => ?_
  obtain ⟨v, sv, μ', s, a, rfl, hm, hok, hk⟩ := he
  refine ⟨?_, ⟨hm.fr.os, hm.fr.tape, hm.fr.output, hm.fr.size, fun x hx => hm.fr.block x hx fun h => h⟩⟩
  have := leV_ok hk hok
  rw [muNil] at this
  have e : v = .bool true := this
  rw [e]
theorem heap_views {μ : Mu} {h : Nat → Option Blk} {w : World} (hx : ∀ n b l x, h n = some b → ¬b.excl w l x) (ok : ∀ n b, h n = some b → ∃ l, μ n = some l ∧ b.ok μ w l) : HeapM μ h w :=
  ⟨ok, fun n m b c l k x hne hb hc hl hk h1 => (hx n b l x hb h1).elim⟩
theorem row_ok {μ : Mu} {k : IntKind} {L : List Int} {c : Nat} {w : World} {b off : Nat} (h : ∀ i, i < L.length → w.cell? ⟨b, off + i, none⟩ = some (.int k (L.getD i 0))) : (Blk.ints k L).ok μ w ⟨b, off, undef⟩ := by
  refine ⟨fun h0 => World.block_lt_of_cell? w _ (h 0 h0), fun y hy => ⟨rfl, fun j c hj => ?_⟩⟩
  match j, hj with
  | 0, hj =>
    simp [intsF] at hj
    subst hj
    exact ⟨_, by simpa using h y hy, by simp [SC.ok, List.getD_eq_getElem?_getD]⟩
  | j + 1, hj => simp [intsF] at hj
theorem view_ok {μ : Mu} {O : Nat → Int} {S : Nat → ByteArray} {n : Nat} {w : World} {b off : Nat} (h : ∀ i, i < n → w.cell? ⟨b, off + i * 2, none⟩ = some (.int .i64 (O i)) ∧ w.cell? ⟨b, off + (i * 2 + 1), none⟩ = some (.string (S i))) : (Blk.view 2 n (viewI O S)).ok μ w ⟨b, off, undef⟩ := by
  refine ⟨fun h0 => World.block_lt_of_cell? w _ (h 0 h0).1, fun y hy => ⟨rfl, fun j c hj => ?_⟩⟩
  match j, hj with
  | 0, hj =>
    simp [viewI] at hj
    subst hj
    exact ⟨_, (h y hy).1, rfl⟩
  | 1, hj =>
    simp [viewI] at hj
    subst hj
    exact ⟨_, (h y hy).2, rfl⟩
  | j + 2, hj => simp [viewI] at hj
theorem addr_any {c : Nat} {a : Option Addr} {p : Nat → Nat → Prop} (h : 0 < c → ∃ b off, a = some ⟨b, off, none⟩ ∧ p b off) (h0 : c = 0 → ∀ b off, p b off) : ∃ b off, (0 < c → a = some ⟨b, off, none⟩) ∧ p b off := by
  rcases Nat.eq_zero_or_pos c with e | e
  · exact ⟨0, 0, fun h => by omega, h0 e _ _⟩
  · obtain ⟨b, off, h1, h2⟩ := h e
    exact ⟨b, off, fun _ => h1, h2⟩
end Go.Proofs.Ytplpmnippkkkkaa.Sx
