/- slices.Reverse as a contract that writes. No condition. -/
import Derived.Test.YtpbcnhkdknmgjaaSxQ
import Derived.Test.YtpbcnhkdknmgjaaRf0
import Derived.Test.YtpbcnhkdknmgjaaRev
namespace Go.Proofs.Ytpbcnhkdknmgjaa.Sx
open Go Go.RowKit
set_option linter.unusedVariables false
set_option linter.unusedSimpArgs false
theorem mixed : Try.prog.follows .mixedOrders = true := by kernel_rfl
def noCtl : Ctl := { lp := fun _ => none, cut := fun _ => none, fuel := 0 }
def lpCtl (i : Nat) (X : Ann) : Ctl := { lp := fun j => if j = i then some X else none, cut := fun _ => none, fuel := 0 }
def ownN (x : SV) : Nat := match x with
  | .s (.c (.own b _ _ _)) => b
  | _ => 0
def capN (x : SV) : Nat := match x with
  | .s (.c (.own _ _ c _)) => c
  | _ => 0
def rowN (b : Option Blk) : List Int := match b with
  | some (.oints _ l) => l
  | some (.ints _ l) => l
  | _ => []
def gR (R : List (List Int)) (i : Nat) : List Int := match R[i]? with
  | some l => l
  | none => []
def c1I (k : IntKind) (n : Int) : RC := .c (.c (.int k n))
def c1B (b : Bool) : RC := .c (.c (.boo b))
def revSpec : Spec := fun base args => match args with
  | [.s (.c (.own b n c q))] => ⟨[], [b], fun bl => match bl with
    | [some (.oints k L)] => if k = .u16 then .ret ⟨.t [], [some (.oints .u16 L.reverse)], []⟩ else .fail
    | _ => .fail⟩
  | _ => Req.fail

open Go.Sort in
theorem rev_eff {w : World} {l : Loc} {tt : TypeId} {L : List Int} {a : Option Addr} {c : Nat} {cur : Array Value} (h1 : l.hd = .slice a L.length c) (h2 : L.length ≤ c) (h3 : c ≤ maxLen) (hc : 0 < c) (ha : a = some ⟨l.b, l.off, none⟩) (hcur : w.heap[l.b]? = some (.cells cur tt (0, 0))) (hsz : l.off + c ≤ cur.size) (hat : ∀ x, x < L.length → cur[l.off + x]? = some (.int .u16 (L.getD x 0)))
    {n : Nat} {w' : World} (hw : w' = putRow encU (Sort.ahead w n) l.b l.off L.toArray.reverse) (μ : Mu) : (Blk.oints .u16 L.reverse).ok μ w' l ∧ Frame w w' (some l.b) := by
  have hsize : w'.heap.size = w.heap.size := by rw [hw]; simp
  have hold : ∀ x, x ≠ l.b → w'.heap[x]? = w.heap[x]? := fun x hx => by
    rw [hw]
    simp only [putRow, mapBlock, heap_ahead, Array.getElem?_modify]
    rw [if_neg (fun e => hx e.symm)]
  have hnew : w'.heap[l.b]? = some (.cells (putCells encU l.off L.toArray.reverse cur) tt (0, 0)) := by
    rw [hw]
    simp only [putRow, mapBlock, heap_ahead, Array.getElem?_modify, if_true, hcur, Option.map_some, onCells]
  refine ⟨⟨tt, a, c, valsI .u16 L.reverse, by rw [h1]; simp, by simpa using h2, h3, by simp [valsI_len], fun _ => ⟨ha, _, hnew, ?_, fun x hx => ?_⟩, fun i hi => ⟨rfl, fun j c' hc' => ?_⟩⟩, ⟨by rw [hw]; rfl, by rw [hw]; rfl, by rw [hw]; rfl, by omega, fun x hx hne => hold x fun e => hne (by rw [e])⟩⟩
  · simp [putCells]; simpa using hsz
  · have hx' : x < L.length := by simpa using hx
    have hlt : l.off + x < cur.size := by omega
    rw [valsI_get _ _ _ (by simpa using hx')]
    simp only [putCells, Array.getElem?_mapIdx]
    rw [Array.getElem?_eq_getElem hlt]
    have h4 : l.off ≤ l.off + x ∧ l.off + x < l.off + L.toArray.reverse.size := by simp; omega
    simp only [Option.map_some, h4, and_self, if_true]
    have e : l.off + x - l.off = x := by omega
    rw [e]
    congr 1
    show Value.int .u16 _ = Value.int .u16 _
    congr 1
    rw [getElem!_pos _ _ (by simpa using hx')]
    simp [List.getD_eq_getElem?_getD, hx']
  · match j, hc' with
    | 0, hc' =>
      simp [intsF] at hc'
      subst hc'
      exact ⟨_, by simpa using valsI_get .u16 L.reverse i hi, by simp [SC.ok, List.getD_eq_getElem?_getD]⟩
    | j + 1, hc' => simp [intsF] at hc'
open Go.Sort in
theorem rev_ok : SpecOk Try.prog 19 revSpec := by
  intro μ h w base args vals hm ha hf K hk
  have hk' := hk
  unfold revSpec at hk'
  split at hk'
  · rename_i b n c q
    simp only [Req.pre, List.nil_append, List.map_cons, List.map_nil] at hk'
    split at hk'
    · rename_i k L hb
      have hb' : h b = some (.oints k L) := by simpa using hb
      split at hk'
      · rename_i hku
        subst hku
        match vals, ha with
        | [u], ha =>
          obtain ⟨⟨l, a, hl, rfl, _⟩, _⟩ := ha
          obtain ⟨l', hl', tt, hok⟩ := hm.ok b _ hb'
          rw [hl] at hl'; cases hl'
          obtain ⟨a', c', e1, e2, e3, e4⟩ := own_vals hok
          have ok_of : ∀ w', (Blk.oints .u16 L.reverse).ok μ w' l → Frame w w' (if 0 < c' then some l.b else none) → ∃ v μ' r, Ending.returned (.tuple #[]) = .returned v ∧ K r ∧ Eff μ μ' h w base (revSpec base [.s (.c (.own b n c q))]).wr r v w' := fun w' hok' hfr => by
            have hkeep : ∀ x, x < w.heap.size → (∀ n' b' l', n' ∈ [b] → h n' = some b' → μ n' = some l' → b'.excl l' ≠ some x) → w'.heap[x]? = w.heap[x]? := fun x hx hne => hfr.keep x hx fun e => by
              split at e
              · rename_i hc0
                have hno : Value.noRow l.hd = false := by
                  rw [e1]
                  cases c' with
                  | zero => omega
                  | succ c => rfl
                exact hne b _ l (by simp) hb' hl (by simp only [Blk.excl, hno]; simpa using e)
              · cases e
            have holds : ∀ (j n' : Nat) (b' : Blk), [b][j]? = some n' → [some (Blk.oints .u16 L.reverse)][j]? = some (some b') → ∃ b0 l0, h n' = some b0 ∧ μ n' = some l0 ∧ b'.ok μ w' l0 ∧ (∀ x, b'.uses l0 = some x → b0.excl l0 = some x) := fun j n' b' h1 h2 => by
              match j, h1, h2 with
              | 0, h1, h2 =>
                simp at h1 h2
                subst h1; subst h2
                exact ⟨_, l, hb', hl, hok', fun x hx => by simpa [Blk.uses, Blk.excl] using hx⟩
              | j + 1, h1, _ => simp at h1
            exact ⟨.tuple #[], μ, ⟨.t [], [some (.oints .u16 L.reverse)], []⟩, rfl, hk', ⟨Ext.refl μ, fun _ _ h => .inl h, ⟨[], rfl, trivial⟩, hfr.os, hfr.tape, hfr.output, hfr.size, hkeep, by simp [revSpec], rfl, by simp, holds, fun j b h => by simp at h, fun j k b c l m x _ h => by simp at h⟩⟩
          rcases Nat.eq_zero_or_pos c' with h0 | h0
          · have hL : L = [] := List.eq_nil_of_length_eq_zero (by omega)
            subst hL
            subst h0
            rw [e1]
            refine (rev_empty a' 0 w).mono fun e w' he => ?_
            obtain ⟨rfl, rfl⟩ := he
            exact ok_of w' ⟨tt, hok⟩ ⟨rfl, rfl, rfl, Nat.le_refl _, fun _ _ _ => rfl⟩
          · obtain ⟨ha2, cur, hcur, hsz, hat⟩ := e4 h0
            rw [e1, ha2]
            have hH : Holds encU w l.b l.off L.toArray := fun j hj => by
              have hj' : j < L.length := by simpa using hj
              refine ⟨?_, by simp [World.frozen?, hcur]⟩
              simp only [World.cell?, hcur]
              simp only [Option.isSome_none, Bool.false_eq_true, if_false]
              rw [hat j hj', getElem!_pos L.toArray j hj]
              simp [List.getD_eq_getElem?_getD, hj']
            have hr := rev_arr l.b l.off c' L.toArray w hH (by simp only [maxLen] at e3; simp; omega)
            have es : L.toArray.size = L.length := by simp
            rw [es] at hr
            refine hr.mono fun e w' he => ?_
            obtain ⟨rfl, n', hw⟩ := he
            obtain ⟨k1, k2⟩ := rev_eff e1 e2 e3 h0 ha2 hcur hsz hat hw μ
            exact ok_of w' k1 (by rw [if_pos h0]; exact k2)
        | [], ha => exact ha.elim
        | _ :: _ :: _, ha => exact ha.2.elim
      · exact hk'.elim
    · exact hk'.elim
  · exact hk'.elim
end Go.Proofs.Ytpbcnhkdknmgjaa.Sx
