/- SlotsPlays, proved. No condition. -/
import Derived.Test.YtcaipfdnadlkdaaSxSl16
namespace Go.Proofs.Ytcaipfdnadlkdaa
open Go.ChangeShapes Go.WideShapes Go.ChangeAt Go.RowKit
set_option linter.unusedVariables false
set_option linter.unusedSimpArgs false

theorem Sx.envP_ok : Sx.EnvOk Try.prog (Sx.envL Sx.envP) := Sx.envL_cons ⟨_, Try.func28, rfl, by kernel_rfl⟩ Sx.awakeS_ok (Sx.envL_cons ⟨_, Try.func29, rfl, by kernel_rfl⟩ Sx.freeG_ok (Sx.envL_cons ⟨_, Try.func30, rfl, by kernel_rfl⟩ Sx.takeG_ok (Sx.envL_cons ⟨_, Try.func31, rfl, by kernel_rfl⟩ Sx.goodT_ok (Sx.envL_nil _))))
set_option maxRecDepth 100000 in
set_option maxHeartbeats 8000000 in
theorem playsS_calls (ao : Option Addr) (b off len cap : Nat) (G : Nat → Bool) (X : Nat → Int) (w : World) (hlc : len ≤ cap) (hm : cap ≤ maxLen) (ha : 0 < cap → ao = some ⟨b, off, none⟩)
    (hx : ∀ i, i < len → w.cell? ⟨b, off + (i * 2 + 0), none⟩ = some (.bool (G i)) ∧ w.cell? ⟨b, off + (i * 2 + 1), none⟩ = some (.int .i64 (X i))) :
    Calls Try.prog 7 #[.slice ao len cap] w fun x w' => x = .returned (.bool true) ∧ Below w.heap.size w w' := by
  let μ : Sx.Mu := fun n => if n = 0 then some ⟨b, off, undef⟩ else none
  have hmu : μ 0 = some ⟨b, off, undef⟩ := rfl
  have hn : ∀ n l, μ n = some l → n = 0 := fun n l h => by
    simp only [μ] at h
    split at h
    · assumption
    · cases h
  have hh : ∀ n k, Sx.h7 len G X n = some k → n = 0 ∧ k = .view 2 len fun i => [.boo (G i), .int .i64 (X i)] := fun n k h => by
    unfold Sx.h7 at h
    split at h
    · rename_i e; exact ⟨e, (Option.some.inj h).symm⟩
    · cases h
  have hM : Sx.HeapM μ (Sx.h7 len G X) w := by
    refine ⟨fun n k hk => ?_, fun n m k c l q x hne hk hc => ?_⟩
    · obtain ⟨rfl, rfl⟩ := hh n k hk
      refine ⟨_, hmu, fun hl => World.block_lt_of_cell? w _ (hx 0 hl).1, fun i hi => ⟨rfl, fun j c hj => ?_⟩⟩
      obtain ⟨g0, g1⟩ := hx i hi
      match j, hj with
      | 0, hj => cases hj; exact ⟨_, g0, rfl⟩
      | 1, hj => cases hj; exact ⟨_, g1, rfl⟩
      | j + 2, hj => simp at hj
    · exact absurd ((hh n k hk).1.trans (hh m c hc).1.symm) hne
  have hvc := Sx.play7_vc len cap G X (Nat.le_trans hlc hm)
  unfold Sx.play7 at hvc
  have hbd : Try.f7.body = some (Try.f7.body.getD .skip) := by kernel_rfl
  refine (Sx.fn_sound Sx.envP_ok Sx.mixed Sx.ctl7 Try.func7 hbd (I := fun _ => False) (args := [Sx.one (.sli 0 0 2 0 len cap false)]) (vals := [.slice ao len cap]) (next := 1)
    ⟨⟨_, ao, hmu, rfl, fun hc => by simpa using ha hc, hlc, hm⟩, trivial⟩ hM (fun n l hl => by rw [hn n l hl]; exact Nat.zero_lt_one) (fun n k l x hk hl hx => ?_) hvc).mono fun e w' he => ?_
  · obtain ⟨rfl, rfl⟩ := hh n k hk
    cases hx
  · obtain ⟨v, sv, μ', s, a, rfl, hm', hok, hk⟩ := he
    have h3 := Sx.leV_ok hk hok
    have hv : v = .bool true := h3
    subst hv
    exact ⟨rfl, ⟨hm'.fr.os, hm'.fr.tape, hm'.fr.output, hm'.fr.size, fun x hx => hm'.fr.block x hx fun h => h⟩⟩

set_option maxRecDepth 100000 in
theorem playsS_any {H : Type} {enc : TypeId × Value → H} {d : DataW H} {p : List MemPlace} {b0 : Nat} (W : World) (v1 : Value) (hv : Value.okWide Try.prog W .any b0 52 v1) (h : DataW.Trod enc Try.prog W 0 (fun _ => true) true 52 v1 d p) :
    Calls Try.prog 7 #[v1] W fun x w' => x = .returned (.bool true) ∧ Below W.heap.size W w' := by
  rcases Args.open_structs Try.underlying52 Try.underlying58 (by kernel_rfl) (by kernel_rfl) hv h with rfl | ⟨b, off, len, cap, rfl, hl, hm, hc⟩
  · exact playsS_calls none 0 0 0 0 (fun _ => false) (fun _ => 0) W (Nat.le_refl _) (Nat.zero_le _) (fun h => absurd h (by omega)) fun i hi => absurd hi (by omega)
  · obtain ⟨G, h0⟩ : ∃ G : Nat → Bool, ∀ i, i < len → W.cell? ⟨b, off + (i * 2 + 0), none⟩ = some (.bool (G i)) := by
      obtain ⟨A, hA⟩ := Go.Deep.choose_lt (n := len) (p := fun i x => W.cell? ⟨b, off + (i * 2 + 0), none⟩ = some (.bool x)) (fun i hi => by
        obtain ⟨c, y, n, h1, h2⟩ := hc i hi 0 _ rfl
        obtain ⟨x, hx, _⟩ := DataW.trod_bool Try.underlying4 h2
        simp at hx
        subst hx
        exact ⟨x, h1⟩)
      exact ⟨A, hA⟩
    obtain ⟨X, h1⟩ : ∃ X : Nat → Int, ∀ i, i < len → W.cell? ⟨b, off + (i * 2 + 1), none⟩ = some (.int .i64 (X i)) := by
      obtain ⟨A, hA⟩ := Go.Deep.choose_lt (n := len) (p := fun i x => W.cell? ⟨b, off + (i * 2 + 1), none⟩ = some (.int .i64 x)) (fun i hi => by
        obtain ⟨c, y, n, h1, h2⟩ := hc i hi 1 _ rfl
        obtain ⟨x, hx, _⟩ := DataW.trod_int Try.underlying3 h2
        simp at hx
        subst hx
        exact ⟨x, h1⟩)
      exact ⟨A, hA⟩
    exact playsS_calls _ b off len cap G X W hl hm (fun _ => rfl) fun i hi => ⟨h0 i hi, h1 i hi⟩

set_option maxRecDepth 100000 in
theorem slotsPlays_lifted (os : Os) (started : os.Started) (H : Type) (enc : TypeId × Value → H) :
    ReturnsInHanded {} Try.checked os 7 .any (Rows.slotsPlaysSpec.pre6 enc Try.prog Try.f7 Rows.slotsPlaysRow.domain false) (Rows.slotsPlaysSpec.post enc Try.prog Try.f7 false true false false) := by
  refine returnsInHanded_of_change (C := Try.checked) Try.own started (by kernel_rfl) Try.func7
    (ChangeSpec.witness6 (enc := enc) (C := Try.checked) false ⟨#[], #[Value.slice none 0 0], []⟩ 8 (by kernel_rfl) (by kernel_rfl) (by kernel_rfl) (by kernel_rfl)) ?_
  intro W base args ds gs before hval0 hW _ _
  have hval : ∀ (j : Nat) t v, Try.f7.params[j]? = some t → args[j]? = some v → Value.okWide Try.prog W .any base t v := hval0
  clear hval0
  obtain ⟨p, q, hA0, hV, _, hfz, _⟩ := id hW
  have hA : DataW.TrodAll enc Try.prog W 0 (fun _ => true) true Try.f7.params.toList args.toList ds p := hA0
  rw [Try.params7] at hA hval
  obtain ⟨v0, vs0, d0, ds0, p0, q0, hargs, rfl, rfl, h0, r0⟩ := trodAll_cons hA
  obtain ⟨rfl, rfl, rfl⟩ := trodAll_nil r0
  obtain rfl : args = #[v0] := by cases args; simp_all
  obtain ⟨rfl, rfl⟩ := trodVars_none hV
  clear hA hA0
  refine (playsS_any W v0 (hval 0 52 v0 rfl rfl) h0).mono fun e W' ⟨he, hw⟩ => ?_
  subst he
  exact ⟨_, rfl, Frame.law_post hW rfl Try.laidOut (by kernel_rfl) rfl Try.underlying4 rfl rfl rfl hw⟩

theorem slotsPlays_holds : Rows.SlotsPlaysSaid :=
  OpenClaim.holds_of_wide 7 Try.f7 rfl rfl rfl rfl rfl rfl rfl ⟨rfl, rfl, rfl, rfl, rfl⟩ rfl rfl rfl rfl rfl (by kernel_rfl) Try.func7 (by kernel_rfl)
    (of_decide_eq_true (by kernel_rfl)) (by unfold Func.isWrapper; first | (rw [if_pos (by decide +kernel)]; kernel_rfl) | (rw [if_neg (by decide +kernel)]; exact ⟨rfl, rfl⟩))
    (fun os started H enc _ => slotsPlays_lifted os started H enc)

end Go.Proofs.Ytcaipfdnadlkdaa
