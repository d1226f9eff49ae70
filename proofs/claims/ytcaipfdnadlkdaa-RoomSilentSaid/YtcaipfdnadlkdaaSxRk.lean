/- rekey's functions as contracts of the reckoner. No condition. -/
import Derived.Test.YtcaipfdnadlkdaaSxBB
import Derived.Test.YtcaipfdnadlkdaaRkB
import Derived.Test.YtcaipfdnadlkdaaRkL
import Derived.KernelRfl
namespace Go.Proofs.Ytcaipfdnadlkdaa.Sx
open Go Go.RowKit
set_option linter.unusedVariables false
set_option linter.unusedSimpArgs false
abbrev RS := Go.Proofs.Ytcaipfdnadlkdaa.St
def stL (s : RS) : List SC := [.int .i64 s.ep, .boo s.op, .int .i64 s.nx, .int .i64 s.nd, .int .i64 s.hv, .int .i64 s.bn]
def stK : List LK := [.i .i64, .b, .i .i64, .i .i64, .i .i64, .i .i64]
def gS (L : List Leaf) (i : Nat) : RS := ⟨gI L i, gB L (i+1), gI L (i+2), gI L (i+3), gI L (i+4), gI L (i+5)⟩
def cS (cs : List SC) : RS := ⟨cellI cs 0, cellB cs 1, cellI cs 2, cellI cs 3, cellI cs 4, cellI cs 5⟩
def rI (n : Int) : Out SV := .eqn n fun x => .ret (one (.int .i64 x))
def rB (n : Bool) : Out SV := .eqn n fun x => .ret (one (.boo x))
def slotC : Con0 := { pat := [.c (.i .i64)], out := fun L => rB (slB (gI L 0)) }
def goodC : Con0 := { pat := [.a stK], out := fun L => rB (goodS (gS L 0)) }
def comC : Con0 := { pat := [.a stK], out := fun L => rI (comS (gS L 0)) }
def raiseC : Con0 := { pat := [.a stK, .c (.i .i64), .c (.i .i64)], out := fun L => .eqn (raiseF (gS L 0) (gI L 6) (gI L 7)) fun r => .ret (.t [.a (stL r.1), .c (.int .i64 r.2)]) }
def joinC : Con0 := { pat := [.a stK, .c (.i .i64)], out := fun L => .eqn (joinF (gS L 0) (gI L 6)) fun r => .ret (.t [.a (stL r.1), .c (.int .i64 r.2)]) }
def ackC : Con0 := { pat := [.a stK, .c (.i .i64), .c (.i .i64)], out := fun L => .eqn (ackF (gS L 0) (gI L 6) (gI L 7)) fun r => .ret (.t [.a (stL r.1), .c (.boo r.2.1), .c (.int .i64 r.2.2)]) }
def awake18C : Con0 := { pat := [], out := fun _ => .ret (one (.tru true)) }

theorem fit_st {ks : List LK} {L : List Leaf} (h : fits (stK ++ ks) L = true) : ∃ ep op nx nd hv bn L', L = .I ep :: .B op :: .I nx :: .I nd :: .I hv :: .I bn :: L' ∧ fits ks L' = true := by
  obtain ⟨ep, _, rfl, h1⟩ := fit_i h
  obtain ⟨op, _, rfl, h2⟩ := fit_b h1
  obtain ⟨nx, _, rfl, h3⟩ := fit_i h2
  obtain ⟨nd, _, rfl, h4⟩ := fit_i h3
  obtain ⟨hv, _, rfl, h5⟩ := fit_i h4
  obtain ⟨bn, L', rfl, h6⟩ := fit_i h5
  exact ⟨ep, op, nx, nd, hv, bn, L', rfl, h6⟩
theorem slot_ok : SpecOk Try.prog 57 slotC.spec := slotC.of_calls fun L h _ w => by
  obtain ⟨i, _, rfl, h1⟩ := fit_i h
  obtain rfl := fit_nil h1
  exact (slot_any i w).mono fun e w' ⟨h1, h2⟩ => ⟨_, one (.boo (slB i)), h1, rfl, rfl, by subst h2; exact Below.refl _ _⟩
theorem com_ok : SpecOk Try.prog 19 comC.spec := comC.of_calls fun L h _ w => by
  obtain ⟨ep, op, nx, nd, hv, bn, _, rfl, h1⟩ := fit_st h
  obtain rfl := fit_nil h1
  exact (coming_any ep op nx nd hv bn w).mono fun e w' ⟨h1, h2⟩ => ⟨_, one (.int .i64 (comS ⟨ep, op, nx, nd, hv, bn⟩)), h1, rfl, rfl, h2⟩
theorem good_ok : SpecOk Try.prog 20 goodC.spec := goodC.of_calls fun L h _ w => by
  obtain ⟨ep, op, nx, nd, hv, bn, _, rfl, h1⟩ := fit_st h
  obtain rfl := fit_nil h1
  exact (good_any ep op nx nd hv bn w).mono fun e w' ⟨h1, h2⟩ => ⟨_, one (.boo (goodS ⟨ep, op, nx, nd, hv, bn⟩)), h1, rfl, rfl, h2⟩
theorem raise_ok : SpecOk Try.prog 16 raiseC.spec := raiseC.of_calls fun L h _ w => by
  obtain ⟨ep, op, nx, nd, hv, bn, _, rfl, h1⟩ := fit_st h
  obtain ⟨n, _, rfl, h2⟩ := fit_i h1
  obtain ⟨now, _, rfl, h3⟩ := fit_i h2
  obtain rfl := fit_nil h3
  exact (raise_any ep op nx nd hv bn n now w).mono fun e w' ⟨h1, h2⟩ => ⟨_, .t [.a (stL (raiseF ⟨ep, op, nx, nd, hv, bn⟩ n now).1), .c (.int .i64 (raiseF ⟨ep, op, nx, nd, hv, bn⟩ n now).2)], h1, rfl, ⟨[_, _], rfl, ⟨_, rfl, rfl, rfl, rfl, rfl, rfl, rfl, trivial⟩, rfl, trivial⟩, h2⟩
theorem join_ok : SpecOk Try.prog 18 joinC.spec := joinC.of_calls fun L h _ w => by
  obtain ⟨ep, op, nx, nd, hv, bn, _, rfl, h1⟩ := fit_st h
  obtain ⟨n, _, rfl, h2⟩ := fit_i h1
  obtain rfl := fit_nil h2
  exact (join_any ep op nx nd hv bn n w).mono fun e w' ⟨h1, h2⟩ => ⟨_, .t [.a (stL (joinF ⟨ep, op, nx, nd, hv, bn⟩ n).1), .c (.int .i64 (joinF ⟨ep, op, nx, nd, hv, bn⟩ n).2)], h1, rfl, ⟨[_, _], rfl, ⟨_, rfl, rfl, rfl, rfl, rfl, rfl, rfl, trivial⟩, rfl, trivial⟩, h2⟩
theorem ack_ok : SpecOk Try.prog 17 ackC.spec := ackC.of_calls fun L h _ w => by
  obtain ⟨ep, op, nx, nd, hv, bn, _, rfl, h1⟩ := fit_st h
  obtain ⟨n, _, rfl, h2⟩ := fit_i h1
  obtain ⟨e, _, rfl, h3⟩ := fit_i h2
  obtain rfl := fit_nil h3
  exact (ack_any ep op nx nd hv bn n e w).mono fun x w' ⟨h1, h2⟩ => ⟨_, .t [.a (stL (ackF ⟨ep, op, nx, nd, hv, bn⟩ n e).1), .c (.boo (ackF ⟨ep, op, nx, nd, hv, bn⟩ n e).2.1), .c (.int .i64 (ackF ⟨ep, op, nx, nd, hv, bn⟩ n e).2.2)], h1, rfl, ⟨[_, _, _], rfl, ⟨_, rfl, rfl, rfl, rfl, rfl, rfl, rfl, trivial⟩, rfl, rfl, trivial⟩, h2⟩
theorem awake18_ok : SpecOk Try.prog 15 awake18C.spec := awake18C.of_calls fun L h _ w => by
  obtain rfl := fit_nil h
  exact (awake_any w).mono fun e w' ⟨h1, h2⟩ => ⟨_, one (.tru true), h1, rfl, rfl, h2⟩
def envRk : List (FuncId × Spec) := [(15, awake18C.spec), (16, raiseC.spec), (17, ackC.spec), (18, joinC.spec), (19, comC.spec), (20, goodC.spec), (57, slotC.spec)]
theorem envRk_ok : EnvOk Try.prog (envL envRk) :=
  envL_cons ⟨_, Try.func15, rfl, by kernel_rfl⟩ awake18_ok (envL_cons ⟨_, Try.func16, rfl, by kernel_rfl⟩ raise_ok (envL_cons ⟨_, Try.func17, rfl, by kernel_rfl⟩ ack_ok
    (envL_cons ⟨_, Try.func18, rfl, by kernel_rfl⟩ join_ok (envL_cons ⟨_, Try.func19, rfl, by kernel_rfl⟩ com_ok (envL_cons ⟨_, Try.func20, rfl, by kernel_rfl⟩ good_ok (envL_cons ⟨_, Try.func57, rfl, by kernel_rfl⟩ slot_ok (envL_nil _)))))))
theorem mixed : Try.prog.follows .mixedOrders = true := by kernel_rfl
end Go.Proofs.Ytcaipfdnadlkdaa.Sx
