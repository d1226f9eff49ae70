/- RoomPlays, proved. No condition. -/
import Derived.Test.YtcaipfdnadlkdaaRm17
namespace Go.Proofs.Ytcaipfdnadlkdaa
open Go.ChangeShapes Go.WideShapes Go.ChangeAt Go.RowKit
set_option linter.unusedVariables false
set_option linter.unusedSimpArgs false

set_option maxRecDepth 100000 in
theorem Sx.envP14_ok : Sx.EnvOk Try.prog (Sx.envL Sx.envP14) := Sx.envL_cons ⟨_, Try.func41, rfl, by kernel_rfl⟩ Sx.awake_ok (Sx.envL_cons ⟨_, Try.func42, rfl, by kernel_rfl⟩ Sx.joinRm_ok (Sx.envL_cons ⟨_, Try.func43, rfl, by kernel_rfl⟩ Sx.aliveRm_ok (Sx.envL_cons ⟨_, Try.func44, rfl, by kernel_rfl⟩ Sx.tickRm_ok (Sx.envL_cons ⟨_, Try.func45, rfl, by kernel_rfl⟩ Sx.leaveRm_ok (Sx.envL_cons ⟨_, Try.func46, rfl, by kernel_rfl⟩ Sx.kickRm_ok (Sx.envL_cons ⟨_, Try.func47, rfl, by kernel_rfl⟩ Sx.haveRm_ok (Sx.envL_cons ⟨_, Try.func51, rfl, by kernel_rfl⟩ Sx.goodRm_ok (Sx.envL_cons ⟨_, Try.func19, rfl, by kernel_rfl⟩ Sx.com_ok (Sx.envL_nil _)))))))))
set_option maxRecDepth 100000 in
set_option maxHeartbeats 8000000 in
theorem plays14_calls (ao : Option Addr) (b off len cap : Nat) (X0 X1 X2 X3 X4 : Nat → Int) (fr : Int) (w : World) (hlc : len ≤ cap) (hm : cap ≤ maxLen) (f0 : 0 ≤ fr) (f1 : fr ≤ 65535) (ha : 0 < cap → ao = some ⟨b, off, none⟩)
    (hx : ∀ i, i < len → w.cell? ⟨b, off + (i * 5 + 0), none⟩ = some (.int .i64 (X0 i)) ∧ w.cell? ⟨b, off + (i * 5 + 1), none⟩ = some (.int .i64 (X1 i)) ∧ w.cell? ⟨b, off + (i * 5 + 2), none⟩ = some (.int .i64 (X2 i)) ∧ w.cell? ⟨b, off + (i * 5 + 3), none⟩ = some (.int .i64 (X3 i)) ∧ w.cell? ⟨b, off + (i * 5 + 4), none⟩ = some (.int .i64 (X4 i))) :
    Calls Try.prog 14 #[.int .u16 fr, .slice ao len cap] w fun x w' => x = .returned (.bool true) ∧ Below w.heap.size w w' := by
  let μ : Sx.Mu := fun n => if n = 0 then some ⟨b, off, undef⟩ else none
  have hmu : μ 0 = some ⟨b, off, undef⟩ := rfl
  have hn : ∀ n l, μ n = some l → n = 0 := fun n l h => by
    simp only [μ] at h
    split at h
    · assumption
    · cases h
  have hh : ∀ n k, Sx.h14 len X0 X1 X2 X3 X4 n = some k → n = 0 ∧ k = .view 5 len fun i => [.int .i64 (X0 i), .int .i64 (X1 i), .int .i64 (X2 i), .int .i64 (X3 i), .int .i64 (X4 i)] := fun n k h => by
    unfold Sx.h14 at h
    split at h
    · rename_i e; exact ⟨e, (Option.some.inj h).symm⟩
    · cases h
  have hM : Sx.HeapM μ (Sx.h14 len X0 X1 X2 X3 X4) w := by
    refine ⟨fun n k hk => ?_, fun n m k c l q x hne hk hc => ?_⟩
    · obtain ⟨rfl, rfl⟩ := hh n k hk
      refine ⟨_, hmu, fun hl => World.block_lt_of_cell? w _ (hx 0 hl).1, fun i hi => ⟨rfl, fun j c hj => ?_⟩⟩
      obtain ⟨g0, g1, g2, g3, g4⟩ := hx i hi
      match j, hj with
      | 0, hj => cases hj; exact ⟨_, g0, rfl⟩
      | 1, hj => cases hj; exact ⟨_, g1, rfl⟩
      | 2, hj => cases hj; exact ⟨_, g2, rfl⟩
      | 3, hj => cases hj; exact ⟨_, g3, rfl⟩
      | 4, hj => cases hj; exact ⟨_, g4, rfl⟩
      | j + 5, hj => simp at hj
    · exact absurd ((hh n k hk).1.trans (hh m c hc).1.symm) hne
  have hvc := Sx.play14_vc len cap fr X0 X1 X2 X3 X4 f0 f1
  unfold Sx.play14 at hvc
  have hbd : Try.f14.body = some (Try.f14.body.getD .skip) := by kernel_rfl
  refine (Sx.fn_sound Sx.envP14_ok Sx.mixed Sx.rpCtl Try.func14 hbd (I := fun _ => False) (args := [Sx.one (.int .u16 fr), Sx.one (.sli 0 0 5 0 len cap false)]) (vals := [.int .u16 fr, .slice ao len cap]) (next := 1)
    ⟨rfl, ⟨_, ao, hmu, rfl, fun hc => by simpa using ha hc, hlc, hm⟩, trivial⟩ hM (fun n l hl => by rw [hn n l hl]; exact Nat.zero_lt_one) (fun n k l x hk hl hx => ?_) hvc).mono fun e w' he => ?_
  · obtain ⟨rfl, rfl⟩ := hh n k hk
    cases hx
  · obtain ⟨v, sv, μ', s, a, rfl, hm', hok, hk⟩ := he
    have h3 := Sx.leV_ok hk hok
    have hv : v = .bool true := h3
    subst hv
    exact ⟨rfl, ⟨hm'.fr.os, hm'.fr.tape, hm'.fr.output, hm'.fr.size, fun x hx => hm'.fr.block x hx fun h => h⟩⟩

set_option maxRecDepth 100000 in
theorem plays14_any {H : Type} {enc : TypeId × Value → H} {d : DataW H} {p : List MemPlace} {b0 : Nat} (W : World) (fr : Int) (v1 : Value) (f0 : 0 ≤ fr) (f1 : fr ≤ 65535) (hv : Value.okWide Try.prog W .any b0 111 v1) (h : DataW.Trod enc Try.prog W 0 (fun _ => true) true 111 v1 d p) :
    Calls Try.prog 14 #[.int .u16 fr, v1] W fun x w' => x = .returned (.bool true) ∧ Below W.heap.size W w' := by
  rcases Args.open_structs Try.underlying111 Try.underlying113 (by kernel_rfl) (by kernel_rfl) hv h with rfl | ⟨b, off, len, cap, rfl, hl, hm, hc⟩
  · exact plays14_calls none 0 0 0 0 (fun _ => 0) (fun _ => 0) (fun _ => 0) (fun _ => 0) (fun _ => 0) fr W (Nat.le_refl _) (Nat.zero_le _) f0 f1 (fun h => absurd h (by omega)) fun i hi => absurd hi (by omega)
  · have field : ∀ (j : Nat) (f : Field) (k : IntKind), (match Try.prog.underlying 113 with | some (.struct fs) => fs[j]? | _ => none) = some f → Try.prog.underlying f.type = some (.int k) → ∃ X : Nat → Int, ∀ i, i < len → W.cell? ⟨b, off + (i * 5 + j), none⟩ = some (.int k (X i)) := fun j f k hf hu => by
      obtain ⟨A, hA⟩ := Go.Deep.choose_lt (n := len) (p := fun i x => W.cell? ⟨b, off + (i * 5 + j), none⟩ = some (.int k x)) (fun i hi => by
        rw [Try.underlying113] at hf
        obtain ⟨c, y, n, h1, h2⟩ := hc i hi j f hf
        obtain ⟨x, hx, _⟩ := DataW.trod_int hu h2
        simp at hx
        subst hx
        exact ⟨x, h1⟩)
      exact ⟨A, hA⟩
    obtain ⟨X0, h0⟩ := field 0 _ .i64 (by rw [Try.underlying113]; rfl) Try.underlying3
    obtain ⟨X1, h1⟩ := field 1 _ .i64 (by rw [Try.underlying113]; rfl) Try.underlying3
    obtain ⟨X2, h2⟩ := field 2 _ .i64 (by rw [Try.underlying113]; rfl) Try.underlying3
    obtain ⟨X3, h3⟩ := field 3 _ .i64 (by rw [Try.underlying113]; rfl) Try.underlying3
    obtain ⟨X4, h4⟩ := field 4 _ .i64 (by rw [Try.underlying113]; rfl) Try.underlying3
    exact plays14_calls _ b off len cap X0 X1 X2 X3 X4 fr W hl hm f0 f1 (fun _ => rfl) fun i hi => ⟨h0 i hi, h1 i hi, h2 i hi, h3 i hi, h4 i hi⟩

set_option maxRecDepth 100000 in
theorem roomPlays_lifted (os : Os) (started : os.Started) (H : Type) (enc : TypeId × Value → H) :
    ReturnsInHanded {} Try.checked os 14 .any (Rows.roomPlaysSpec.pre6 enc Try.prog Try.f14 Rows.roomPlaysRow.domain false) (Rows.roomPlaysSpec.post enc Try.prog Try.f14 false true false false) := by
  refine returnsInHanded_of_change (C := Try.checked) Try.own started (by kernel_rfl) Try.func14
    (ChangeSpec.witness6 (enc := enc) (C := Try.checked) false ⟨#[], #[Value.int .u16 0, Value.slice none 0 0], []⟩ 8 (by kernel_rfl) (by kernel_rfl) (by kernel_rfl) (by kernel_rfl)) ?_
  intro W base args ds gs before hval0 hW _ _
  have hval : ∀ (j : Nat) t v, Try.f14.params[j]? = some t → args[j]? = some v → Value.okWide Try.prog W .any base t v := hval0
  clear hval0
  obtain ⟨p, q, hA0, hV, _, hfz, _⟩ := id hW
  have hA : DataW.TrodAll enc Try.prog W 0 (fun _ => true) true Try.f14.params.toList args.toList ds p := hA0
  rw [Try.params14] at hA hval
  obtain ⟨v0, vs0, d0, ds0, p0, q0, hargs, rfl, rfl, h0, r0⟩ := trodAll_cons hA
  obtain ⟨v1, vs1, d1, ds1, p1, q1, rfl, rfl, rfl, h1, r1⟩ := trodAll_cons r0
  obtain ⟨rfl, rfl, rfl⟩ := trodAll_nil r1
  obtain rfl : args = #[v0, v1] := by cases args; simp_all
  obtain ⟨rfl, rfl⟩ := trodVars_none hV
  obtain ⟨a0, rfl, rfl, rfl, w0⟩ := open_int Try.underlying33 (hval 0 33 v0 rfl rfl) h0
  clear hA hA0
  refine (plays14_any W a0 v1 (bounds_u16 w0).1 (bounds_u16 w0).2 (hval 1 111 v1 rfl rfl) h1).mono fun e W' ⟨he, hw⟩ => ?_
  subst he
  exact ⟨_, rfl, Frame.law_post hW rfl Try.laidOut (by kernel_rfl) rfl Try.underlying4 rfl rfl rfl hw⟩

theorem roomPlays_holds : Rows.RoomPlaysSaid :=
  OpenClaim.holds_of_wide 14 Try.f14 rfl rfl rfl rfl rfl rfl rfl ⟨rfl, rfl, rfl, rfl, rfl⟩ rfl rfl rfl rfl rfl (by kernel_rfl) Try.func14 (by kernel_rfl)
    (of_decide_eq_true (by kernel_rfl)) (by unfold Func.isWrapper; first | (rw [if_pos (by decide +kernel)]; kernel_rfl) | (rw [if_neg (by decide +kernel)]; exact ⟨rfl, rfl⟩))
    (fun os started H enc _ => roomPlays_lifted os started H enc)

end Go.Proofs.Ytcaipfdnadlkdaa
