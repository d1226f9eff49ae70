/- Contracts of objects, as requests. No condition. -/
import Derived.Test.YtplpmnippkkkkaaPo2
import Derived.Test.YtplpmnippkkkkaaPo3
namespace Go.Proofs.Ytplpmnippkkkkaa
open Go Go.RowKit
set_option linter.unusedVariables false
set_option linter.unusedSimpArgs false

def addF (m : Int) (l : List ByteArray) (x : ByteArray) : List ByteArray := if (l.length : Int) < m then l ++ [x] else l
def oneF (l : List Int) (n : Int) : List Int := if 0 ≤ n ∧ n < l.length then l.set n.toNat (l.getD n.toNat 0 + 1) else l
namespace Sx

theorem obj_open {w : World} {l : Loc} {t : TypeId} {hd : List Int} {L : List Value} (h : objOk w l t hd L) :
    l.off = 0 ∧ ∃ ao c, w.heap[l.b]? = some (.cells (hd.map (Value.int .i64) ++ [Value.slice ao L.length c]).toArray t (0, 0)) ∧ RowAt w l.b ao L.length c L := by
  obtain ⟨h0, ao, c, h1, h2, h3, h4⟩ := h
  refine ⟨h0, ao, c, h1, rfl, h2, h3, fun hc => ?_⟩
  obtain ⟨b, off, cur, tc, g1, g2, g3, g4, g5⟩ := h4 hc
  exact ⟨b, off, cur, tc, g1, g2, g3, g4, g5⟩
theorem obj_shut {w : World} {l : Loc} {t : TypeId} {hd : List Int} {L : List Value} {ao : Option Addr} {c : Nat} (h0 : l.off = 0) (h1 : w.heap[l.b]? = some (.cells (hd.map (Value.int .i64) ++ [Value.slice ao L.length c]).toArray t (0, 0)))
    (hr : RowAt w l.b ao L.length c L) : objOk w l t hd L := ⟨h0, ao, c, h1, hr.le, hr.max, fun hc => by
    obtain ⟨b, off, cur, tc, g1, g2, g3, g4, g5⟩ := hr.row hc
    exact ⟨b, off, cur, tc, g1, g2, g3, g4, g5⟩⟩
theorem foot_inv {w : World} {l : Loc} {t : TypeId} {hd : List Int} {n c : Nat} {ao : Option Addr} {x : Nat} (h1 : w.heap[l.b]? = some (.cells (hd.map (Value.int .i64) ++ [Value.slice ao n c]).toArray t (0, 0))) (h : objFoot w l x) :
    l.b = x ∨ ∃ b, ao = some b ∧ 0 < c ∧ b.block = x := by
  rcases h with h | h
  · exact .inl h
  · rw [h1] at h
    exact .inr (rowsOf_inv h)
theorem foot_row {w : World} {l : Loc} {t : TypeId} {hd : List Int} {n c : Nat} {a : Addr} (h1 : w.heap[l.b]? = some (.cells (hd.map (Value.int .i64) ++ [Value.slice (some a) n c]).toArray t (0, 0))) (hc : 0 < c) : objFoot w l a.block := by
  refine .inr ?_
  rw [h1]
  obtain ⟨c, rfl⟩ : ∃ k, c = k + 1 := ⟨c - 1, by omega⟩
  exact rowsOf_snoc
theorem Eff.obj {μ : Mu} {h : Nat → Option Blk} {w w' : World} {base b : Nat} {l : Loc} {t : TypeId} {hd hd' : List Int} {L L' : OL} {ao ao' : Option Addr} {n c c' : Nat} {sv : SV} {v : Value}
    (hb : h b = some (.obj t hd L)) (hl : μ b = some l) (h0 : l.off = 0) (h1 : w.heap[l.b]? = some (.cells (hd.map (Value.int .i64) ++ [Value.slice ao n c]).toArray t (0, 0))) (hT : Touch w w' l.b ao c)
    (h1' : w'.heap[l.b]? = some (.cells (hd'.map (Value.int .i64) ++ [Value.slice ao' L'.vals.length c']).toArray t (0, 0))) (hr' : RowAt w' l.b ao' L'.vals.length c' L'.vals) (hg : Grow w ao c ao' c') (hv : sv.ok μ v) :
    Eff μ μ h w base [b] ⟨sv, [some (.obj t hd' L')], []⟩ v w' :=
  { ext := Ext.refl μ, dom := fun _ _ h => .inl h, val := hv, os := hT.os, tape := hT.tape, output := hT.output, size := hT.size
    keep := fun x hx hne => hT.keep x hx (fun e => hne b _ l (by simp) hb hl (.inl e.symm)) (fun hc g o e ex => hne b _ l (by simp) hb hl (by subst e; subst ex; exact foot_row h1 hc))
    wrs := by simp, wsl := rfl, nsl := by simp
    olds := fun j n b' e1 e2 => by
      match j, e1, e2 with
      | 0, e1, e2 =>
        simp at e1 e2
        subst e1; subst e2
        refine ⟨_, l, hb, hl, obj_shut h0 h1' hr', fun x hx => ?_⟩
        rcases foot_inv h1' hx with e | ⟨a, rfl, hc, rfl⟩
        · exact .inl (.inl e)
        · obtain ⟨g, o, cur, tc, e, _⟩ := hr'.row hc
          cases e
          rcases hg hc g o rfl with hge | ⟨hc0, o', e⟩
          · exact .inr ⟨hge, rfl, rfl⟩
          · subst e
            have := foot_row (a := ⟨g, o', none⟩) h1 hc0
            exact .inl this
      | j + 1, e1, _ => simp at e1
    news := fun j b h => by simp at h
    newsApart := fun j k b c l m x _ h => by simp at h }

/-- a method of an object -/
def methGo (t : TypeId) (act : List Int → OL → List SV → Out (SV × List Int × OL)) (xs : List SV) (bl : List (Option Blk)) : Out Res :=
  match bl with
  | [some (.obj t' hd L)] => if t' = t then (act hd L xs).bind fun r => .ret ⟨r.1, [some (.obj t r.2.1 r.2.2)], []⟩ else .fail
  | _ => .fail
def methS (t : TypeId) (act : List Int → OL → List SV → Out (SV × List Int × OL)) : Spec := fun _ args =>
  match args with
  | .s (.c (.ptr b i e j)) :: xs => if i == 0 && (e == 0 && j == 0) then ⟨[], [b], methGo t act xs⟩ else Req.fail
  | _ => Req.fail
theorem methS_ok {P : Program} {f : FuncId} {t : TypeId} {act : List Int → OL → List SV → Out (SV × List Int × OL)}
    (H : ∀ (μ : Mu) (w : World) (pb : Nat) (hd : List Int) (L : OL) (ao : Option Addr) (c : Nat) (xs : List SV) (us : List Value), AllV μ xs us → w.heap[pb]? = some (.cells (hd.map (Value.int .i64) ++ [Value.slice ao L.vals.length c]).toArray t (0, 0)) → RowAt w pb ao L.vals.length c L.vals →
      ∀ K, (act hd L xs).wp K → Calls P f (.pointer (some ⟨pb, 0, none⟩) :: us).toArray w fun e w' => ∃ v sv hd' L' ao' c', e = .returned v ∧ K (sv, hd', L') ∧ sv.ok μ v ∧
        w'.heap[pb]? = some (.cells (hd'.map (Value.int .i64) ++ [Value.slice ao' L'.vals.length c']).toArray t (0, 0)) ∧ RowAt w' pb ao' L'.vals.length c' L'.vals ∧ Grow w ao c ao' c' ∧ Touch w w' pb ao c) : SpecOk P f (methS t act) := by
  intro μ h w base args vals hm ha hf K hk
  unfold methS at hk ⊢
  split at hk
  · rename_i b i e j xs
    split at hk
    · rename_i hc
      rw [if_pos hc]
      simp only [Bool.and_eq_true, beq_iff_eq] at hc
      obtain ⟨rfl, rfl, rfl⟩ := hc
      simp only [Req.pre, List.nil_append, List.map_cons, List.map_nil] at hk
      unfold methGo at hk
      match vals, ha with
      | u :: us, ha =>
        obtain ⟨⟨l, hl, rfl⟩, ha⟩ := ha
        split at hk
        · rename_i t' hd L hbl
          have hb : h b = some (.obj t' hd L) := by simpa using hbl
          split at hk
          · rename_i ht
            subst ht
            obtain ⟨l', hl', hok⟩ := hm.ok b _ hb
            rw [hl] at hl'; cases hl'
            obtain ⟨h0, ao, c, h1, hr⟩ := obj_open hok
            have hk' := Out.wp_bind.1 hk
            have e0 : l.off + (0 * 0 + 0) = 0 := by omega
            rw [e0]
            refine (H μ w l.b hd L ao c xs us ha h1 hr _ hk').mono ?_
            rintro ev w' ⟨v, sv, hd', L', ao', c', rfl, hK, hv, g1, g2, g3, g4⟩
            exact ⟨v, μ, _, rfl, hK, Eff.obj hb hl h0 h1 g4 g1 g2 g3 hv⟩
          · exact hk.elim
        · exact hk.elim
    · exact hk.elim
  · exact hk.elim

/-! ### what the objects of this seat do -/
def olen : OL → Nat
  | .ints _ l => l.length
  | .strs l => l.length
  | .raws l => l.length
theorem olen_eq (L : OL) : L.vals.length = olen L := by cases L <;> simp [olen, OL.vals]
def addI (x : SV) (L : OL) : Option OL :=
  match x.int?, L with
  | some (.i64, n, _), .ints .i64 l => some (.ints .i64 (l ++ [n]))
  | _, _ => none
def addSt (x : SV) (L : OL) : Option OL :=
  match x.str?, L with
  | some n, .strs l => some (.strs (l ++ [n]))
  | _, _ => none
/-- 'q': all is told as numbers written out, so the kernel decides -/
def brQ {α : Type} (q : Bool) (c : Prop) [Decidable c] (x y : Out α) : Out α :=
  match q with
  | true => match decide c with
    | true => x
    | false => y
  | false => .br c x y
theorem brQ_ok {α : Type} {q : Bool} {c : Prop} [hd : Decidable c] {x y : Out α} {K : α → Prop} (h : (brQ q c x y).wp K) : (c → x.wp K) ∧ (¬c → y.wp K) := by
  unfold brQ at h
  cases q
  · exact h
  · by_cases hc : c
    · rw [decide_eq_true hc] at h
      exact ⟨fun _ => h, fun hn => absurd hc hn⟩
    · rw [decide_eq_false hc] at h
      exact ⟨fun hh => absurd hh hc, fun _ => h⟩
def numQ (q : Bool) (n : Int) : SC :=
  match q with
  | true => .num .i64 n
  | false => .int .i64 n
theorem numQ_ok (q : Bool) (n : Int) (μ : Mu) : (numQ q n).ok μ (.int .i64 n) := by cases q <;> rfl
def addA (q : Bool) (f : SV → OL → Option OL) (hd : List Int) (L : OL) (xs : List SV) : Out (SV × List Int × OL) :=
  match hd, xs with
  | [m], [x] => match f x L with
    | some L' => .ast (olen L ≤ 1000) (brQ q ((olen L : Int) < m) (.ret (one (.tru true), [m], L')) (.ret (one (.tru false), [m], L)))
    | none => .fail
  | _, _ => .fail
def takeI (q : Bool) (hd : List Int) (L : OL) (xs : List SV) : Out (SV × List Int × OL) :=
  match hd, xs with
  | [m], [] => match L with
    | .ints .i64 l => .ast (l.length ≤ 1000) (brQ q (l.length = 0) (.ret (.t [.c (.num .i64 0), .c (.tru false)], [m], L)) (.ret (.t [.c (numQ q (l.getD 0 0)), .c (.tru true)], [m], .ints .i64 (l.drop 1))))
    | _ => .fail
  | _, _ => .fail
def takeSt (q : Bool) (hd : List Int) (L : OL) (xs : List SV) : Out (SV × List Int × OL) :=
  match hd, xs with
  | [m], [] => match L with
    | .strs l => .ast (l.length ≤ 1000) (brQ q (l.length = 0) (.ret (.t [.c (.str ByteArray.empty), .c (.tru false)], [m], L)) (.ret (.t [.c (.str (l.getD 0 ByteArray.empty)), .c (.tru true)], [m], .strs (l.drop 1))))
    | _ => .fail
  | _, _ => .fail
def lenA (q : Bool) (hd : List Int) (L : OL) (xs : List SV) : Out (SV × List Int × OL) :=
  match hd, xs with
  | [m], [] => .ast (olen L ≤ 1000) (.ret (one (numQ q (olen L)), [m], L))
  | _, _ => .fail
def emp : OL → OL
  | .ints k _ => .ints k []
  | .strs _ => .strs []
  | .raws _ => .raws []
theorem emp_vals (L : OL) : (emp L).vals = [] := by cases L <;> rfl
def clearA (hd : List Int) (L : OL) (xs : List SV) : Out (SV × List Int × OL) :=
  match hd, xs with
  | [m], [] => .ret (.t [], [m], emp L)
  | _, _ => .fail
def oneA (q : Bool) (hd : List Int) (L : OL) (xs : List SV) : Out (SV × List Int × OL) :=
  match hd, xs with
  | [], [x] => match x.int?, L with
    | some (.i64, n, _), .ints .i64 l => .ast (l.length ≤ 100) (brQ q (0 ≤ n ∧ n < l.length) (.ast (0 ≤ l.getD n.toNat 0 ∧ l.getD n.toNat 0 < 1000000) (.ret (.t [], [], .ints .i64 (l.set n.toNat (l.getD n.toNat 0 + 1))))) (.ret (.t [], [], L)))
    | _, _ => .fail
  | _, _ => .fail
def ofA (q : Bool) (hd : List Int) (L : OL) (xs : List SV) : Out (SV × List Int × OL) :=
  match hd, xs with
  | [], [x] => match x.int?, L with
    | some (.i64, n, _), .ints .i64 l => .ast (l.length ≤ 100) (brQ q (0 ≤ n ∧ n < l.length) (.ret (one (numQ q (l.getD n.toNat 0)), [], L)) (.ret (one (.num .i64 0), [], L)))
    | _, _ => .fail
  | _, _ => .fail
/-- an object that is made -/
def newS (t : TypeId) (act : Int → List Int × OL) : Spec := fun base args =>
  match args with
  | [x] => match x.int? with
    | some (.i64, n, _) => ⟨[], [], fun _ => .ast (-9223372036854775808 ≤ n ∧ n ≤ 9223372036854775807) (.ret ⟨one (.ptr base 0 0 0), [], [.obj t (act n).1 (act n).2]⟩)⟩
    | _ => Req.fail
  | _ => Req.fail
theorem newS_ok {P : Program} {f : FuncId} {t : TypeId} {act : Int → List Int × OL}
    (H : ∀ (w : World) (n : Int), -9223372036854775808 ≤ n → n ≤ 9223372036854775807 → Calls P f #[.int .i64 n] w fun e w' => ∃ pb ao c, w.heap.size ≤ pb ∧ e = .returned (.pointer (some ⟨pb, 0, none⟩)) ∧ Below w.heap.size w w' ∧
      w'.heap[pb]? = some (.cells ((act n).1.map (Value.int .i64) ++ [Value.slice ao (act n).2.vals.length c]).toArray t (0, 0)) ∧ RowAt w' pb ao (act n).2.vals.length c (act n).2.vals ∧ (0 < c → ∀ g o, ao = some ⟨g, o, none⟩ → w.heap.size ≤ g)) : SpecOk P f (newS t act) := by
  intro μ h w base args vals hm ha hf K hk
  unfold newS at hk ⊢
  split at hk
  · rename_i x
    split at hk
    · rename_i n q' hn
      match vals, ha with
      | [u], ha =>
        obtain rfl := SV.int_ok hn ha.1
        obtain ⟨⟨h0, h1⟩, hk⟩ := hk
        have hb : μ base = none := hf base (by simp [freshN])
        refine (H w n h0 h1).mono ?_
        rintro ev w' ⟨pb, ao, c, hpb, rfl, hB, g1, g2, g3⟩
        let l' : Loc := ⟨pb, 0, undef⟩
        let μ' : Mu := fun n => if n = base then some l' else μ n
        have hext : Ext μ μ' := fun n l hl => by
          by_cases hn : n = base
          · subst hn; rw [hb] at hl; cases hl
          · simp [μ', hn, hl]
        refine ⟨_, μ', _, rfl, hk, { ext := hext, dom := fun n l hl => ?_, val := ⟨l', by simp [μ'], rfl⟩, os := hB.os, tape := hB.tape, output := hB.output, size := hB.size, keep := fun x hx _ => hB.block x hx, wrs := List.nodup_nil, wsl := rfl, nsl := by simp, olds := fun j n b' h => (by simp at h), news := fun j b hj => ?_, newsApart := fun j k b c l m x hne hj hk' => ?_ }⟩
        · by_cases hn : n = base
          · right; simp [freshN, hn]
          · left; simpa [μ', hn] using hl
        · match j, hj with
          | 0, hj =>
            simp at hj
            subst hj
            refine ⟨l', by simp [μ'], obj_shut rfl g1 g2, fun x hx => .inl ?_⟩
            rcases foot_inv (l := l') g1 hx with e | ⟨a, e, hc, rfl⟩
            · subst e; exact hpb
            · obtain ⟨g, o, cur, tc, e', _⟩ := g2.row hc
              rw [e'] at e
              cases e
              exact g3 hc g o e'
          | j + 1, hj => simp at hj
        · match j, k, hj, hk' with
          | 0, 0, _, _ => exact absurd rfl hne
          | j + 1, _, hj, _ => simp at hj
          | 0, k + 1, _, hk' => simp at hk'
      | [], ha => exact ha.elim
      | _ :: _ :: _, ha => exact ha.2.elim
    · exact hk.elim
  · exact hk.elim
theorem Touch.of_b {w w' : World} {pb c : Nat} {ao : Option Addr} (h : Below w.heap.size w w') : Touch w w' pb ao c := ⟨h.os, h.tape, h.output, h.size, fun x hx _ _ => h.block x hx⟩
theorem grow_same (w : World) (ao : Option Addr) (c : Nat) : Grow w ao c ao c := fun hc g o e => .inr ⟨hc, o, e⟩

theorem new_int_ok : SpecOk Try.prog 18 (newS 71 fun n => ([min (max n 1) 1000], OL.ints .i64 [])) := newS_ok fun w n h0 h1 => (new_int n w h0 h1).mono fun e w' ⟨e1, e2, e3⟩ =>
  ⟨w.heap.size, none, 0, Nat.le_refl _, e1, e2, e3.heap, ⟨rfl, Nat.le_refl _, Nat.zero_le _, fun h => by omega⟩, fun h => by omega⟩
theorem add_int_ok (q : Bool) : SpecOk Try.prog 20 (methS 71 (addA q addI)) := methS_ok fun μ w pb hd L ao c xs us ha h1 hr K hk => by
  unfold addA at hk
  split at hk
  · rename_i m x
    split at hk
    · rename_i L' hL
      match us, ha with
      | [u], ha =>
        obtain ⟨⟨hle⟩, hk⟩ := hk
        have hlen := olen_eq L
        rw [hlen] at h1 hr
        have hu : ∃ y l, L = OL.ints .i64 l ∧ L' = OL.ints .i64 (l ++ [y]) ∧ u = Value.int .i64 y := by
          unfold addI at hL
          split at hL
          · rename_i y q l hy
            cases hL
            exact ⟨y, l, rfl, rfl, SV.int_ok hy ha.1⟩
          · cases hL
        obtain ⟨y, l, rfl, rfl, rfl⟩ := hu
        by_cases hlt : (olen (OL.ints .i64 l) : Int) < m
        · refine (add_int_room pb m ao _ c w h1 y _ hr hlt hle).mono ?_
          rintro e w' ⟨rfl, ao', c', g1, g2, g3, g4⟩
          have e1 : (OL.ints .i64 (l ++ [y])).vals = (OL.ints .i64 l).vals ++ [Value.int .i64 y] := by simp [OL.vals]
          have e2 : (OL.ints .i64 (l ++ [y])).vals.length = olen (OL.ints .i64 l) + 1 := by rw [olen_eq]; simp [olen]
          exact ⟨_, _, [m], _, ao', c', rfl, (brQ_ok hk).1 hlt, rfl, by rw [e2]; exact g4.heap, by rw [e2, e1]; exact g1, g2, g3⟩
        · refine (add_int_full pb m ao _ c w h1 y (by omega)).mono ?_
          rintro e w' ⟨rfl, hB⟩
          exact ⟨_, _, [m], _, ao, c, rfl, (brQ_ok hk).2 hlt, rfl, by rw [hlen]; exact (hB.block pb (heap_lt h1)).trans h1, by rw [hlen]; exact hr.below hB, grow_same _ _ _, Touch.of_b hB⟩
      | [], ha => exact ha.elim
      | _ :: _ :: _, ha => exact ha.2.elim
    · exact hk.elim
  · exact hk.elim
theorem take_int_ok (q : Bool) : SpecOk Try.prog 22 (methS 71 (takeI q)) := methS_ok fun μ w pb hd L ao c xs us ha h1 hr K hk => by
  unfold takeI at hk
  split at hk
  · rename_i m
    match us, ha with
    | [], _ =>
      split at hk
      · rename_i l
        obtain ⟨⟨hle⟩, hk⟩ := hk
        have hln : (OL.ints .i64 l).vals.length = l.length := olen_eq _
        by_cases hz : l.length = 0
        · rw [hln] at h1
          refine (take_int_none pb m ao _ c w h1 hz).mono ?_
          rintro e w' ⟨rfl, hB⟩
          exact ⟨_, _, [m], _, ao, c, rfl, (brQ_ok hk).1 hz, ⟨[_, _], rfl, rfl, rfl, trivial⟩, by rw [hln]; exact (hB.block pb (heap_lt h1)).trans h1, hr.below hB, grow_same _ _ _, Touch.of_b hB⟩
        · rw [hln] at h1
          have hr' := hr
          rw [hln] at hr'
          have hx : (OL.ints .i64 l).vals[0]? = some (Value.int .i64 (l.getD 0 0)) := by
            cases l with
            | nil => simp at hz
            | cons a l => simp [OL.vals]
          refine (take_int_some pb m ao _ c w h1 _ _ hr' hx hle).mono ?_
          rintro e w' ⟨rfl, ao', c', g1, g2, g3, g4⟩
          have e1 : (OL.ints .i64 (l.drop 1)).vals = (OL.ints .i64 l).vals.drop 1 := by simp [OL.vals]
          have e2 : (OL.ints .i64 (l.drop 1)).vals.length = l.length - 1 := by rw [olen_eq]; simp [olen]
          exact ⟨_, _, [m], _, ao', c', rfl, (brQ_ok hk).2 hz, ⟨[_, _], rfl, numQ_ok q _ μ, rfl, trivial⟩, by rw [e2]; exact g4.heap, by rw [e2, e1]; exact g1, g2, g3⟩
      · exact hk.elim
    | _ :: _, ha => exact ha.elim
  · exact hk.elim
theorem len_int_ok (q : Bool) : SpecOk Try.prog 23 (methS 71 (lenA q)) := methS_ok fun μ w pb hd L ao c xs us ha h1 hr K hk => by
  unfold lenA at hk
  split at hk
  · rename_i m
    match us, ha with
    | [], _ =>
      obtain ⟨⟨hle⟩, hk⟩ := hk
      have hlen := olen_eq L
      have h1' := h1
      rw [hlen] at h1'
      refine (len_int pb m ao _ c w h1' hle).mono ?_
      rintro e w' ⟨rfl, hB⟩
      exact ⟨_, _, [m], _, ao, c, rfl, hk, numQ_ok q _ μ, (hB.block pb (heap_lt h1)).trans h1, hr.below hB, grow_same _ _ _, Touch.of_b hB⟩
    | _ :: _, ha => exact ha.elim
  · exact hk.elim
theorem clear_int_ok : SpecOk Try.prog 21 (methS 71 clearA) := methS_ok fun μ w pb hd L ao c xs us ha h1 hr K hk => by
  unfold clearA at hk
  split at hk
  · rename_i m
    match us, ha with
    | [], _ =>
      refine (clear_int pb m ao _ c w h1).mono ?_
      rintro e w' ⟨rfl, g1, g2, g3⟩
      exact ⟨_, _, [m], emp L, none, 0, rfl, hk, ⟨[], rfl, trivial⟩, by rw [emp_vals]; exact g3.heap, by rw [emp_vals]; exact g1, fun h => by omega, g2⟩
    | _ :: _, ha => exact ha.elim
  · exact hk.elim

theorem new_str_ok : SpecOk Try.prog 17 (newS 69 fun n => ([min (max n 1) 1000], OL.strs [])) := newS_ok fun w n h0 h1 => (new_str n w h0 h1).mono fun e w' ⟨e1, e2, e3⟩ =>
  ⟨w.heap.size, none, 0, Nat.le_refl _, e1, e2, e3.heap, ⟨rfl, Nat.le_refl _, Nat.zero_le _, fun h => by omega⟩, fun h => by omega⟩
theorem add_str_ok (q : Bool) : SpecOk Try.prog 19 (methS 69 (addA q addSt)) := methS_ok fun μ w pb hd L ao c xs us ha h1 hr K hk => by
  unfold addA at hk
  split at hk
  · rename_i m x
    split at hk
    · rename_i L' hL
      match us, ha with
      | [u], ha =>
        obtain ⟨⟨hle⟩, hk⟩ := hk
        have hlen := olen_eq L
        rw [hlen] at h1 hr
        have hu : ∃ y l, L = OL.strs l ∧ L' = OL.strs (l ++ [y]) ∧ u = Value.string y := by
          unfold addSt at hL
          split at hL
          · rename_i y l hy
            cases hL
            exact ⟨y, l, rfl, rfl, SV.str_ok hy ha.1⟩
          · cases hL
        obtain ⟨y, l, rfl, rfl, rfl⟩ := hu
        by_cases hlt : (olen (OL.strs l) : Int) < m
        · refine (add_str_room pb m ao _ c w h1 y _ hr hlt hle).mono ?_
          rintro e w' ⟨rfl, ao', c', g1, g2, g3, g4⟩
          have e1 : (OL.strs (l ++ [y])).vals = (OL.strs l).vals ++ [Value.string y] := by simp [OL.vals]
          have e2 : (OL.strs (l ++ [y])).vals.length = olen (OL.strs l) + 1 := by rw [olen_eq]; simp [olen]
          exact ⟨_, _, [m], _, ao', c', rfl, (brQ_ok hk).1 hlt, rfl, by rw [e2]; exact g4.heap, by rw [e2, e1]; exact g1, g2, g3⟩
        · refine (add_str_full pb m ao _ c w h1 y (by omega)).mono ?_
          rintro e w' ⟨rfl, hB⟩
          exact ⟨_, _, [m], _, ao, c, rfl, (brQ_ok hk).2 hlt, rfl, by rw [hlen]; exact (hB.block pb (heap_lt h1)).trans h1, by rw [hlen]; exact hr.below hB, grow_same _ _ _, Touch.of_b hB⟩
      | [], ha => exact ha.elim
      | _ :: _ :: _, ha => exact ha.2.elim
    · exact hk.elim
  · exact hk.elim
theorem take_str_ok (q : Bool) : SpecOk Try.prog 25 (methS 69 (takeSt q)) := methS_ok fun μ w pb hd L ao c xs us ha h1 hr K hk => by
  unfold takeSt at hk
  split at hk
  · rename_i m
    match us, ha with
    | [], _ =>
      split at hk
      · rename_i l
        obtain ⟨⟨hle⟩, hk⟩ := hk
        have hln : (OL.strs l).vals.length = l.length := olen_eq _
        by_cases hz : l.length = 0
        · rw [hln] at h1
          refine (take_str_none pb m ao _ c w h1 hz).mono ?_
          rintro e w' ⟨rfl, hB⟩
          exact ⟨_, _, [m], _, ao, c, rfl, (brQ_ok hk).1 hz, ⟨[_, _], rfl, rfl, rfl, trivial⟩, by rw [hln]; exact (hB.block pb (heap_lt h1)).trans h1, hr.below hB, grow_same _ _ _, Touch.of_b hB⟩
        · rw [hln] at h1
          have hr' := hr
          rw [hln] at hr'
          have hx : (OL.strs l).vals[0]? = some (Value.string (l.getD 0 ByteArray.empty)) := by
            cases l with
            | nil => simp at hz
            | cons a l => simp [OL.vals]
          refine (take_str_some pb m ao _ c w h1 _ _ hr' hx hle).mono ?_
          rintro e w' ⟨rfl, ao', c', g1, g2, g3, g4⟩
          have e1 : (OL.strs (l.drop 1)).vals = (OL.strs l).vals.drop 1 := by simp [OL.vals]
          have e2 : (OL.strs (l.drop 1)).vals.length = l.length - 1 := by rw [olen_eq]; simp [olen]
          exact ⟨_, _, [m], _, ao', c', rfl, (brQ_ok hk).2 hz, ⟨[_, _], rfl, rfl, rfl, trivial⟩, by rw [e2]; exact g4.heap, by rw [e2, e1]; exact g1, g2, g3⟩
      · exact hk.elim
    | _ :: _, ha => exact ha.elim
  · exact hk.elim
theorem len_str_ok (q : Bool) : SpecOk Try.prog 24 (methS 69 (lenA q)) := methS_ok fun μ w pb hd L ao c xs us ha h1 hr K hk => by
  unfold lenA at hk
  split at hk
  · rename_i m
    match us, ha with
    | [], _ =>
      obtain ⟨⟨hle⟩, hk⟩ := hk
      have hlen := olen_eq L
      have h1' := h1
      rw [hlen] at h1'
      refine (len_str pb m ao _ c w h1' hle).mono ?_
      rintro e w' ⟨rfl, hB⟩
      exact ⟨_, _, [m], _, ao, c, rfl, hk, numQ_ok q _ μ, (hB.block pb (heap_lt h1)).trans h1, hr.below hB, grow_same _ _ _, Touch.of_b hB⟩
    | _ :: _, ha => exact ha.elim
  · exact hk.elim
theorem clear_str_ok : SpecOk Try.prog 26 (methS 69 clearA) := methS_ok fun μ w pb hd L ao c xs us ha h1 hr K hk => by
  unfold clearA at hk
  split at hk
  · rename_i m
    match us, ha with
    | [], _ =>
      refine (clear_str pb m ao _ c w h1).mono ?_
      rintro e w' ⟨rfl, g1, g2, g3⟩
      exact ⟨_, _, [m], emp L, none, 0, rfl, hk, ⟨[], rfl, trivial⟩, by rw [emp_vals]; exact g3.heap, by rw [emp_vals]; exact g1, fun h => by omega, g2⟩
    | _ :: _, ha => exact ha.elim
  · exact hk.elim

theorem new_cnt_any (m : Int) (w : World) (m0 : -9223372036854775808 ≤ m) (m1 : m ≤ 9223372036854775807) :
    Calls Try.prog 8 #[.int .i64 m] w fun e w' => e = .returned (.pointer (some ⟨w.heap.size + 1, 0, none⟩)) ∧ w' = (w.alloc (.cells ((List.replicate (min (max m 0) 100).toNat (0 : Int)).map (Value.int .i64)).toArray 63)).alloc (.cells #[.slice (some ⟨w.heap.size, 0, none⟩) (min (max m 0) 100).toNat (min (max m 0) 100).toNat] 58) := by
  rcases Int.lt_or_le m 0 with h | h
  · rw [show min (max m 0) 100 = 0 by omega]; exact new_cnt_lo m w h m0 m1
  · rcases Int.lt_or_le 100 m with h' | h'
    · rw [show min (max m 0) 100 = 100 by omega]; exact new_cnt_hi m w h' m0 m1
    · rw [show min (max m 0) 100 = m by omega]; exact new_cnt_mid m w h h' m0 m1
theorem cnt_new_ok : SpecOk Try.prog 8 (newS 58 fun n => ([], .ints .i64 (List.replicate (min (max n 0) 100).toNat 0))) := newS_ok fun w n h0 h1 => (new_cnt_any n w h0 h1).mono fun e w' ⟨e1, e2⟩ => by
  have hl : (OL.ints .i64 (List.replicate (min (max n 0) 100).toNat 0)).vals.length = (min (max n 0) 100).toNat := by rw [olen_eq]; simp [olen]
  refine ⟨w.heap.size + 1, some ⟨w.heap.size, 0, none⟩, (min (max n 0) 100).toNat, by omega, e1, by subst e2; exact bal (bal (Below.refl _ _) _) _, ?_, ⟨rfl, by rw [hl]; exact Nat.le_refl _, by simp only [maxLen]; omega, fun hc => ⟨w.heap.size, 0, ((List.replicate (min (max n 0) 100).toNat (0 : Int)).map (Value.int .i64)).toArray, 63, rfl, by omega, ?_, ?_, fun i hi => ?_⟩⟩, fun hc g o e => by cases e; exact Nat.le_refl _⟩
  · rw [hl]; subst e2
    have hsz : ∀ o : Obj, (w.alloc o).heap.size = w.heap.size + 1 := fun o => by simp
    have := heap_alloc_new (w.alloc (.cells ((List.replicate (min (max n 0) 100).toNat (0 : Int)).map (Value.int .i64)).toArray 63)) (.cells #[.slice (some ⟨w.heap.size, 0, none⟩) (min (max n 0) 100).toNat (min (max n 0) 100).toNat] 58)
    rw [hsz] at this
    exact this
  · subst e2
    rw [heap_alloc_old (w.alloc _) _ (by simp)]
    exact heap_alloc_new w _
  · simp
  · simp only [OL.vals, Nat.zero_add, List.getElem?_toArray]
theorem cnt_one_ok (q : Bool) : SpecOk Try.prog 10 (methS 58 (oneA q)) := methS_ok fun μ w pb hd L ao c xs us ha h1 hr K hk => by
  unfold oneA at hk
  split at hk
  · rename_i x
    split at hk
    · rename_i n q' l hn
      match us, ha with
      | [u], ha =>
        obtain rfl := SV.int_ok hn ha.1
        obtain ⟨⟨hle⟩, hk⟩ := hk
        have hln : (OL.ints .i64 l).vals.length = l.length := olen_eq _
        by_cases hin : 0 ≤ n ∧ n < l.length
        · obtain ⟨⟨x0, x1⟩, hk⟩ := (brQ_ok hk).1 hin
          obtain ⟨g, off, cur, tc, hao, hg, hcur, hsz, hat⟩ := hr.row (by have := hr.le; omega)
          rw [hln] at h1
          have hget : cur[off + n.toNat]? = some (.int .i64 (l.getD n.toNat 0)) := by
            rw [hat n.toNat (by rw [hln]; omega)]
            simp [OL.vals, List.getD_eq_getElem?_getD, show n.toNat < l.length by omega]
          have hx : w.cell? ⟨g, off + n.toNat, none⟩ = some (.int .i64 (l.getD n.toNat 0)) := by simp only [World.cell?, hcur]; exact hget
          refine (one_in pb ao _ c w h1 g off hao n _ hin.1 hin.2 hle hx (by simp [World.frozen?, hcur]) x0 x1).mono ?_
          rintro e w' ⟨rfl, rfl⟩
          have hl' : (OL.ints .i64 (l.set n.toNat (l.getD n.toNat 0 + 1))).vals.length = l.length := by rw [olen_eq]; simp [olen]
          refine ⟨_, _, [], _, ao, c, rfl, hk, ⟨[], rfl, trivial⟩, by rw [hl', set_other _ _ _ _ (fun e => hg e.symm)]; exact h1, ⟨rfl, by rw [hl', ← hln]; exact hr.le, hr.max, fun hc => ⟨g, off, _, tc, hao, hg, set_at _ _ _ _ hcur, by simpa using hsz, fun i hi => ?_⟩⟩, grow_same _ _ _, ?_⟩
          · rw [hl'] at hi
            have hati := hat i (by rw [hln]; exact hi)
            by_cases e : i = n.toNat
            · subst e
              have : off + n.toNat < cur.size := (Array.getElem?_eq_some_iff.1 hget).1
              simp [OL.vals, this, hi]
            · rw [Array.getElem?_setIfInBounds_ne (by omega), hati]
              simp [OL.vals, List.getElem?_set_ne (Ne.symm e)]
          · exact ⟨rfl, rfl, rfl, by simp [World.setCell], fun y hy h2 h3 => set_other _ _ _ _ (h3 (by have := hr.le; omega) _ _ hao)⟩
        · rw [hln] at h1
          refine (one_out pb ao _ c w h1 n (by omega) hle).mono ?_
          rintro e w' ⟨rfl, rfl⟩
          exact ⟨_, _, [], _, ao, c, rfl, (brQ_ok hk).2 hin, ⟨[], rfl, trivial⟩, by rw [hln]; exact h1, hr, grow_same _ _ _, Touch.refl⟩
      | [], ha => exact ha.elim
      | _ :: _ :: _, ha => exact ha.2.elim
    · exact hk.elim
  · exact hk.elim
theorem cnt_of_ok (q : Bool) : SpecOk Try.prog 11 (methS 58 (ofA q)) := methS_ok fun μ w pb hd L ao c xs us ha h1 hr K hk => by
  unfold ofA at hk
  split at hk
  · rename_i x
    split at hk
    · rename_i n q' l hn
      match us, ha with
      | [u], ha =>
        obtain rfl := SV.int_ok hn ha.1
        obtain ⟨⟨hle⟩, hk⟩ := hk
        have hln : (OL.ints .i64 l).vals.length = l.length := olen_eq _
        by_cases hin : 0 ≤ n ∧ n < l.length
        · have hk := (brQ_ok hk).1 hin
          obtain ⟨g, off, cur, tc, hao, hg, hcur, hsz, hat⟩ := hr.row (by have := hr.le; omega)
          rw [hln] at h1
          have hget : cur[off + n.toNat]? = some (.int .i64 (l.getD n.toNat 0)) := by
            rw [hat n.toNat (by rw [hln]; omega)]
            simp [OL.vals, List.getD_eq_getElem?_getD, show n.toNat < l.length by omega]
          have hx : w.cell? ⟨g, off + n.toNat, none⟩ = some (.int .i64 (l.getD n.toNat 0)) := by simp only [World.cell?, hcur]; exact hget
          refine (of_in pb ao _ c w h1 g off hao n _ hin.1 hin.2 hle hx).mono ?_
          rintro e w' ⟨rfl, rfl⟩
          exact ⟨_, _, [], _, ao, c, rfl, hk, numQ_ok q _ μ, by rw [hln]; exact h1, hr, grow_same _ _ _, Touch.refl⟩
        · rw [hln] at h1
          refine (of_out pb ao _ c w h1 n (by omega) hle).mono ?_
          rintro e w' ⟨rfl, rfl⟩
          exact ⟨_, _, [], _, ao, c, rfl, (brQ_ok hk).2 hin, rfl, by rw [hln]; exact h1, hr, grow_same _ _ _, Touch.refl⟩
      | [], ha => exact ha.elim
      | _ :: _ :: _, ha => exact ha.2.elim
    · exact hk.elim
  · exact hk.elim

/-! ### the same, told at once -/
theorem methS_sub {P : Program} {f : FuncId} {t : TypeId} {act act' : List Int → OL → List SV → Out (SV × List Int × OL)}
    (hh : ∀ hd L xs K, (act' hd L xs).wp K → (act hd L xs).wp fun r => ∃ sv, K (sv, r.2) ∧ ∀ (μ : Mu) (v : Value), r.1.ok μ v → sv.ok μ v) (hs : SpecOk P f (methS t act)) : SpecOk P f (methS t act') := by
  intro μ h w base args vals hm ha hf K hk
  have key : (methS t act' base args).wr = (methS t act base args).wr := by
    unfold methS
    split
    · split <;> rfl
    · rfl
  have hk2 : (methS t act base args).pre h fun r => ∃ sv, K ⟨sv, r.ws, r.ns⟩ ∧ ∀ (μ : Mu) (v : Value), r.v.ok μ v → sv.ok μ v := by
    unfold methS at hk ⊢
    split at hk
    · split at hk
      · rename_i hc
        rw [if_pos hc]
        simp only [Req.pre] at hk ⊢
        unfold methGo at hk ⊢
        split at hk
        · split at hk
          · rename_i ht
            simp only [ht, if_true]
            exact Out.wp_bind.2 (hh _ _ _ _ (Out.wp_bind.1 hk))
          · exact hk.elim
        · exact hk.elim
      · exact hk.elim
    · exact hk.elim
  rw [key]
  refine (hs μ h w base args vals hm ha hf _ hk2).mono ?_
  rintro e w' ⟨v, μ', r, rfl, ⟨sv, hK, hv⟩, hE⟩
  exact ⟨v, μ', ⟨sv, r.ws, r.ns⟩, rfl, hK, { hE with val := hv _ _ hE.val }⟩
def addStO (hd : List Int) (L : OL) (xs : List SV) : Out (SV × List Int × OL) :=
  match hd, xs with
  | [m], [x] => match x.str?, L with
    | some n, .strs l => .ast (l.length ≤ 1000) (.ret (one (.boo (decide ((l.length : Int) < m))), [m], .strs (addF m l n)))
    | _, _ => .fail
  | _, _ => .fail
def oneO (hd : List Int) (L : OL) (xs : List SV) : Out (SV × List Int × OL) :=
  match hd, xs with
  | [], [x] => match x.int?, L with
    | some (.i64, n, _), .ints .i64 l => .ast (l.length ≤ 100 ∧ (0 ≤ n ∧ n < l.length → 0 ≤ l.getD n.toNat 0 ∧ l.getD n.toNat 0 < 1000000)) (.ret (.t [], [], .ints .i64 (oneF l n)))
    | _, _ => .fail
  | _, _ => .fail
theorem add_strO_ok : SpecOk Try.prog 19 (methS 69 addStO) := methS_sub (fun hd L xs K hk => by
  unfold addStO at hk
  split at hk
  · rename_i m x
    split at hk
    · rename_i n l hn
      obtain ⟨⟨hle⟩, hk⟩ := hk
      simp only [addA, addSt, hn, brQ]
      refine ⟨⟨hle⟩, fun h => ?_, fun h => ?_⟩
      · have h' : (l.length : Int) < m := h
        have e : addF m l n = l ++ [n] := if_pos h'
        rw [e, decide_eq_true h'] at hk
        exact ⟨_, hk, fun _ _ h => h⟩
      · have h' : ¬(l.length : Int) < m := h
        have e : addF m l n = l := if_neg h'
        rw [e, decide_eq_false h'] at hk
        exact ⟨_, hk, fun _ _ h => h⟩
    · exact hk.elim
  · exact hk.elim) (add_str_ok false)
theorem one_cntO_ok : SpecOk Try.prog 10 (methS 58 oneO) := methS_sub (fun hd L xs K hk => by
  unfold oneO at hk
  split at hk
  · rename_i x
    split at hk
    · rename_i n q l hn
      obtain ⟨⟨hle, hb⟩, hk⟩ := hk
      simp only [oneA, hn, brQ]
      refine ⟨⟨hle⟩, fun h => ⟨⟨hb h⟩, ?_⟩, fun h => ?_⟩
      · have e : oneF l n = l.set n.toNat (l.getD n.toNat 0 + 1) := if_pos h
        rw [e] at hk
        exact ⟨_, hk, fun _ _ h => h⟩
      · have e : oneF l n = l := if_neg h
        rw [e] at hk
        exact ⟨_, hk, fun _ _ h => h⟩
    · exact hk.elim
  · exact hk.elim) (cnt_one_ok false)
end Sx
end Go.Proofs.Ytplpmnippkkkkaa
