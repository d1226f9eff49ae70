/- RoomSilent, proved. No condition. -/
import Derived.Test.YtcaipfdnadlkdaaRm19
namespace Go.Proofs.Ytcaipfdnadlkdaa
open Go.ChangeShapes Go.WideShapes Go.ChangeAt Go.RowKit
set_option linter.unusedVariables false
set_option linter.unusedSimpArgs false

set_option maxRecDepth 100000 in
theorem Sx.envS11_ok : Sx.EnvOk Try.prog (Sx.envL Sx.envS11) := Sx.envL_cons ⟨_, Try.func41, rfl, by kernel_rfl⟩ Sx.awake_ok (Sx.envL_cons ⟨_, Try.func42, rfl, by kernel_rfl⟩ Sx.joinRm_ok (Sx.envL_cons ⟨_, Try.func43, rfl, by kernel_rfl⟩ Sx.aliveRm_ok (Sx.envL_cons ⟨_, Try.func44, rfl, by kernel_rfl⟩ Sx.tickRm_ok (Sx.envL_cons ⟨_, Try.func19, rfl, by kernel_rfl⟩ Sx.com_ok (Sx.envL_nil _)))))
set_option maxRecDepth 100000 in
set_option maxHeartbeats 8000000 in
theorem silent11_calls (ao : Option Addr) (b off len cap : Nat) (X : Nat → Int) (n late : Int) (w : World) (hlc : len ≤ cap) (hm : cap ≤ maxLen) (n0 : 0 ≤ n) (l0 : 0 ≤ late) (ha : 0 < cap → ao = some ⟨b, off, none⟩)
    (hx : ∀ i, i < len → w.cell? ⟨b, off + i, none⟩ = some (.int .u16 (X i)) ∧ 0 ≤ X i) :
    Calls Try.prog 11 #[.int .u8 n, .slice ao len cap, .int .u16 late] w fun x w' => x = .returned (.bool true) ∧ Below w.heap.size w w' := by
  let μ : Sx.Mu := fun n => if n = 0 then some ⟨b, off, undef⟩ else none
  have hmu : μ 0 = some ⟨b, off, undef⟩ := rfl
  have hn : ∀ n l, μ n = some l → n = 0 := fun n l h => by
    simp only [μ] at h
    split at h
    · assumption
    · cases h
  have hh : ∀ n k, Sx.h11 len X n = some k → n = 0 ∧ k = .view 1 len fun i => [.int .u16 (X i)] := fun n k h => by
    unfold Sx.h11 at h
    split at h
    · rename_i e; exact ⟨e, (Option.some.inj h).symm⟩
    · cases h
  have hM : Sx.HeapM μ (Sx.h11 len X) w := by
    refine ⟨fun n k hk => ?_, fun n m k c l q x hne hk hc => ?_⟩
    · obtain ⟨rfl, rfl⟩ := hh n k hk
      refine ⟨_, hmu, fun hl => World.block_lt_of_cell? w _ (hx 0 hl).1, fun i hi => ⟨rfl, fun j c hj => ?_⟩⟩
      have g0 := (hx i hi).1
      match j, hj with
      | 0, hj => cases hj; exact ⟨_, by simpa using g0, rfl⟩
      | j + 1, hj => simp at hj
    · exact absurd ((hh n k hk).1.trans (hh m c hc).1.symm) hne
  have hvc := Sx.silent11_vc n late len cap X n0 l0 fun i hi => (hx i hi).2
  unfold Sx.silent11 at hvc
  have hbd : Try.f11.body = some (Try.f11.body.getD .skip) := by kernel_rfl
  refine (Sx.fn_sound Sx.envS11_ok Sx.mixed Sx.siCtl Try.func11 hbd (I := fun _ => False) (args := [Sx.one (.int .u8 n), Sx.one (.sli 0 0 1 0 len cap false), Sx.one (.int .u16 late)]) (vals := [.int .u8 n, .slice ao len cap, .int .u16 late]) (next := 1)
    ⟨rfl, ⟨_, ao, hmu, rfl, fun hc => by simpa using ha hc, hlc, hm⟩, rfl, trivial⟩ hM (fun n l hl => by rw [hn n l hl]; exact Nat.zero_lt_one) (fun n k l x hk hl hx => ?_) hvc).mono fun e w' he => ?_
  · obtain ⟨rfl, rfl⟩ := hh n k hk
    cases hx
  · obtain ⟨v, sv, μ', s, a, rfl, hm', hok, hk⟩ := he
    have h3 := Sx.leV_ok hk hok
    have hv : v = .bool true := h3
    subst hv
    exact ⟨rfl, ⟨hm'.fr.os, hm'.fr.tape, hm'.fr.output, hm'.fr.size, fun x hx => hm'.fr.block x hx fun h => h⟩⟩

set_option maxRecDepth 100000 in
theorem silent11_any {H : Type} {enc : TypeId × Value → H} {d : DataW H} {p : List MemPlace} {b0 : Nat} (W : World) (n late : Int) (v1 : Value) (n0 : 0 ≤ n) (l0 : 0 ≤ late) (hv : Value.okWide Try.prog W .any b0 80 v1) (h : DataW.Trod enc Try.prog W 0 (fun _ => true) true 80 v1 d p) :
    Calls Try.prog 11 #[.int .u8 n, v1, .int .u16 late] W fun x w' => x = .returned (.bool true) ∧ Below W.heap.size W w' := by
  rcases Args.open_ints1 Try.underlying80 Try.underlying33 (by kernel_rfl) hv h with rfl | ⟨b, off, len, cap, X, rfl, hl, hc, hx⟩
  · exact silent11_calls none 0 0 0 0 (fun _ => 0) n late W (Nat.le_refl _) (Nat.zero_le _) n0 l0 (fun h => absurd h (by omega)) fun i hi => absurd hi (by omega)
  · exact silent11_calls _ b off len cap X n late W hl hc n0 l0 (fun _ => rfl) fun i hi => ⟨(hx i hi).1, (bounds_u16 (hx i hi).2).1⟩

set_option maxRecDepth 100000 in
theorem roomSilent_lifted (os : Os) (started : os.Started) (H : Type) (enc : TypeId × Value → H) :
    ReturnsInHanded {} Try.checked os 11 .any (Rows.roomSilentSpec.pre6 enc Try.prog Try.f11 Rows.roomSilentRow.domain false) (Rows.roomSilentSpec.post enc Try.prog Try.f11 false true false false) := by
  refine returnsInHanded_of_change (C := Try.checked) Try.own started (by kernel_rfl) Try.func11
    (ChangeSpec.witness6 (enc := enc) (C := Try.checked) false ⟨#[], #[Value.int .u8 0, Value.slice none 0 0, Value.int .u16 0], []⟩ 8 (by kernel_rfl) (by kernel_rfl) (by kernel_rfl) (by kernel_rfl)) ?_
  intro W base args ds gs before hval0 hW _ _
  have hval : ∀ (j : Nat) t v, Try.f11.params[j]? = some t → args[j]? = some v → Value.okWide Try.prog W .any base t v := hval0
  clear hval0
  obtain ⟨p, q, hA0, hV, _, hfz, _⟩ := id hW
  have hA : DataW.TrodAll enc Try.prog W 0 (fun _ => true) true Try.f11.params.toList args.toList ds p := hA0
  rw [Try.params11] at hA hval
  obtain ⟨v0, vs0, d0, ds0, p0, q0, hargs, rfl, rfl, h0, r0⟩ := trodAll_cons hA
  obtain ⟨v1, vs1, d1, ds1, p1, q1, rfl, rfl, rfl, h1, r1⟩ := trodAll_cons r0
  obtain ⟨v2, vs2, d2, ds2, p2, q2, rfl, rfl, rfl, h2, r2⟩ := trodAll_cons r1
  obtain ⟨rfl, rfl, rfl⟩ := trodAll_nil r2
  obtain rfl : args = #[v0, v1, v2] := by cases args; simp_all
  obtain ⟨rfl, rfl⟩ := trodVars_none hV
  obtain ⟨a0, rfl, rfl, rfl, w0⟩ := open_int Try.underlying5 (hval 0 5 v0 rfl rfl) h0
  obtain ⟨a2, rfl, rfl, rfl, w2⟩ := open_int Try.underlying33 (hval 2 33 v2 rfl rfl) h2
  clear hA hA0
  refine (silent11_any W a0 a2 v1 (bounds_u8 w0).1 (bounds_u16 w2).1 (hval 1 80 v1 rfl rfl) h1).mono fun e W' ⟨he, hw⟩ => ?_
  subst he
  exact ⟨_, rfl, Frame.law_post hW rfl Try.laidOut (by kernel_rfl) rfl Try.underlying4 rfl rfl rfl hw⟩

theorem roomSilent_holds : Rows.RoomSilentSaid :=
  OpenClaim.holds_of_wide 11 Try.f11 rfl rfl rfl rfl rfl rfl rfl ⟨rfl, rfl, rfl, rfl, rfl⟩ rfl rfl rfl rfl rfl (by kernel_rfl) Try.func11 (by kernel_rfl)
    (of_decide_eq_true (by kernel_rfl)) (by unfold Func.isWrapper; first | (rw [if_pos (by decide +kernel)]; kernel_rfl) | (rw [if_neg (by decide +kernel)]; exact ⟨rfl, rfl⟩))
    (fun os started H enc _ => roomSilent_lifted os started H enc)

end Go.Proofs.Ytcaipfdnadlkdaa
