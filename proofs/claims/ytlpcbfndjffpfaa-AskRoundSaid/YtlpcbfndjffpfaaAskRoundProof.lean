/- AskRound holds: the law answers true, whatever the input, and the input reads as it did. The walk is over the abstract machine. -/
import Derived.Test.YtlpcbfndjffpfaaRows
import Derived.WalkKit
import Derived.ProofKit
import Derived.OpenShut
import Derived.ShutString
import Derived.ChangeOld
import Derived.Below
import Derived.Test.YtlpcbfndjffpfaaAskRounds
import Derived.Test.YtlpcbfndjffpfaaAbs28
namespace Go.Proofs.Ytlpcbfndjffpfaa.askRound
open Go.ChangeShapes Go.WideShapes Go.ChangeAt Go.RowKit
set_option linter.unusedVariables false

theorem own : ownKnob Try.prog.godebug = none := by kernel_rfl
theorem laidOut : laidOutB Try.prog = true := by kernel_rfl
theorem kind72 : Go.Abs.kindOf Try.prog 9 72 = some (.cons (.int .i64) (.cons (.int .i64) (.cons (.int .i64) (.cons (.int .i64) (.cons (.int .i64) (.cons (.int .i64) (.cons (.int .i64) (.cons (.int .i64) (.cons (.int .i64) (.cons (.int .i64) (.cons .str (.cons (.slice 9 1 .str) (.cons (.int .i64) (.cons (.slice 5 1 (.int .u8)) .nil)))))))))))))) := by kernel_rfl

theorem walk (w : World) (v0 : Value) (x0 : Go.Abs.Arg Try.prog w 72 v0) :
    Calls Try.prog 16 #[v0] w fun e w' => e = .returned (.bool true) ∧ Below w.heap.size w w' := by
  obtain ⟨y0, μ0, m0, r0, e0, s0, q0, p0, a0⟩ := x0.agg ti72 rfl kind72 Go.Abs.mu0 Go.Abs.M0 (Go.Abs.R.start w)
  have B0 := a0
  have VV : Go.Abs.VRs μ0 0 [.agg y0] [v0] := (Go.Abs.VRs_cons p0 Go.Abs.VRs_nil)
  have hstk : m0.stk = [] := q0
  simp only [Go.Abs.K.A] at B0
  clear a0
  obtain ⟨Hm, Sm⟩ := m0
  simp only at hstk
  subst hstk
  obtain ⟨_, _, rfl, ⟨n0_0, rfl, lo0_0, hi0_0⟩, ⟨_, _, rfl, ⟨n0_1, rfl, lo0_1, hi0_1⟩, ⟨_, _, rfl, ⟨n0_2, rfl, lo0_2, hi0_2⟩, ⟨_, _, rfl, ⟨n0_3, rfl, lo0_3, hi0_3⟩, ⟨_, _, rfl, ⟨n0_4, rfl, lo0_4, hi0_4⟩, ⟨_, _, rfl, ⟨n0_5, rfl, lo0_5, hi0_5⟩, ⟨_, _, rfl, ⟨n0_6, rfl, lo0_6, hi0_6⟩, ⟨_, _, rfl, ⟨n0_7, rfl, lo0_7, hi0_7⟩, ⟨_, _, rfl, ⟨n0_8, rfl, lo0_8, hi0_8⟩, ⟨_, _, rfl, ⟨n0_9, rfl, lo0_9, hi0_9⟩, ⟨_, _, rfl, ⟨l0_10, rfl, hl0_10⟩, ⟨_, _, rfl, ⟨u0_11, css0_11, rfl, st0_11, of0_11, rd0_11, le0_11, ea0_11⟩, ⟨_, _, rfl, ⟨n0_12, rfl, lo0_12, hi0_12⟩, ⟨_, _, rfl, ⟨u0_13, css0_13, rfl, st0_13, of0_13, rd0_13, le0_13, ea0_13⟩, rfl⟩⟩⟩⟩⟩⟩⟩⟩⟩⟩⟩⟩⟩⟩ := B0
  try simp only [List.append_nil, List.cons_append, List.nil_append] at VV
  obtain ⟨t0, T0, T0'⟩ := texts_of ea0_11
  rw [T0, T0'] at rd0_11
  obtain ⟨d0, D0⟩ := Go.Abs.bytes_rh st0_13 rd0_13 ea0_13
  simp [IntKind.min, IntKind.max, IntKind.signed, IntKind.bits] at lo0_0 hi0_0 lo0_1 hi0_1 lo0_2 hi0_2 lo0_3 hi0_3 lo0_4 hi0_4 lo0_5 hi0_5 lo0_6 hi0_6 lo0_7 hi0_7 lo0_8 hi0_8 lo0_9 hi0_9 lo0_12 hi0_12
  exact Go.Abs.calls_of_AC r0 VV (Go.Proofs.Ytlpcbfndjffpfaa.askRound (a := ⟨n0_0, n0_1, n0_2, n0_3, n0_4, n0_5, n0_6, n0_7, n0_8, n0_9, l0_10, t0, n0_12, d0⟩) (Go.Abs.RH.of rd0_11 (Go.Abs.AV.st_lev0 st0_11)) D0 ⟨⟨lo0_0, (by omega : n0_0 < 9223372036854775808)⟩, ⟨lo0_1, (by omega : n0_1 < 9223372036854775808)⟩, ⟨lo0_2, (by omega : n0_2 < 9223372036854775808)⟩, ⟨lo0_3, (by omega : n0_3 < 9223372036854775808)⟩, ⟨lo0_4, (by omega : n0_4 < 9223372036854775808)⟩, ⟨lo0_5, (by omega : n0_5 < 9223372036854775808)⟩, ⟨lo0_6, (by omega : n0_6 < 9223372036854775808)⟩, ⟨lo0_7, (by omega : n0_7 < 9223372036854775808)⟩, ⟨lo0_8, (by omega : n0_8 < 9223372036854775808)⟩, ⟨lo0_9, (by omega : n0_9 < 9223372036854775808)⟩, ⟨lo0_12, (by omega : n0_12 < 9223372036854775808)⟩⟩) (fun v M' h => h)

set_option maxRecDepth 100000 in
theorem lifted (os : Os) (started : os.Started) (H : Type) (enc : TypeId × Value → H) :
    ReturnsInHanded {} Try.checked os 16 .any (Rows.askRoundSpec.pre6 enc Try.prog Try.f16 Rows.askRoundRow.domain false) (Rows.askRoundSpec.post enc Try.prog Try.f16 false true false false) := by
  refine returnsInHanded_of_change (C := Try.checked) own started (by kernel_rfl) Try.func16
    (ChangeSpec.witness6 (enc := enc) (C := Try.checked) false ⟨#[], #[.agg #[.int .i64 0, .int .i64 0, .int .i64 0, .int .i64 0, .int .i64 0, .int .i64 0, .int .i64 0, .int .i64 0, .int .i64 0, .int .i64 0, .string ⟨#[]⟩, .slice none 0 0, .int .i64 0, .slice none 0 0]], []⟩ 8 (by kernel_rfl) (by kernel_rfl) (by kernel_rfl) (by kernel_rfl)) ?_
  intro W base args ds gs before hval0 hW hcnd _
  have hval : ∀ (j : Nat) t v, Try.f16.params[j]? = some t → args[j]? = some v → Value.okWide Try.prog W .any base t v := hval0
  have hW' := hW
  obtain ⟨p, q, hA0, hV, rfl, hfz, hnd⟩ := hW
  have hA : DataW.TrodAll enc Try.prog W 0 (fun _ => true) true Try.f16.params.toList args.toList ds p := hA0
  rw [Try.params16] at hA hval
  obtain ⟨v0, vs0, d0, ds0, p0, q0, hargs, rfl, rfl, h0, r0⟩ := trodAll_cons hA
  obtain ⟨rfl, rfl, rfl⟩ := trodAll_nil r0
  obtain rfl : args = #[v0] := by cases args; simp_all
  obtain ⟨rfl, rfl⟩ := trodVars_none hV
  have lt0 : ∀ x ∈ p0, x.block < W.heap.size := by obtain ⟨m, hm⟩ := h0; exact DataW.trod_lt m _ _ _ hm
  have x0 : Go.Abs.Arg Try.prog W 72 v0 := ⟨⟨base, hval 0 72 v0 rfl rfl⟩, H, enc, d0, p0, h0⟩
  clear hA0 hval0
  refine (walk W v0 x0).mono fun e W' ⟨he, bel⟩ => ?_
  subst he
  exact ⟨_, rfl, _, _, _, [], _, [], hW', trodAll_mk1 (shut_bool Try.underlying4 _), (trodAll_cons_mk (Below.trod laidOut (by kernel_rfl) (of_decide_eq_true (by kernel_rfl)) h0 bel lt0) trodAll_mk0), rfl, bel.frame _, fun h => by cases h⟩

theorem over : Rows.askRoundRow.holds Try.pinned (OpenSpec.ofChange Rows.askRoundSpec) :=
  OpenClaim.holds_of_wide 16 Try.f16 rfl rfl rfl rfl rfl rfl rfl ⟨rfl, rfl, rfl, rfl, rfl⟩ rfl rfl rfl rfl rfl (by kernel_rfl) Try.func16 (by kernel_rfl)
    (of_decide_eq_true (by kernel_rfl)) (by unfold Func.isWrapper; first | (rw [if_pos (by decide +kernel)]; kernel_rfl) | (rw [if_neg (by decide +kernel)]; exact ⟨rfl, rfl⟩))
    (fun os started H enc _ => lifted os started H enc)

end Go.Proofs.Ytlpcbfndjffpfaa.askRound
namespace Go.Proofs.Ytlpcbfndjffpfaa
theorem askRound_holds : Rows.AskRoundSaid := askRound.over
end Go.Proofs.Ytlpcbfndjffpfaa
