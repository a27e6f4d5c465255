/- TellMay holds: the law answers true, whatever the input, and the input reads as it did. The walk is over the abstract machine. -/
import Derived.Test.YtlpcbfndjffpfaaRows
import Derived.WalkKit
import Derived.ProofKit
import Derived.OpenShut
import Derived.ShutString
import Derived.ChangeOld
import Derived.Below
import Derived.Test.YtlpcbfndjffpfaaTellMays
import Derived.Test.YtlpcbfndjffpfaaAbs28
namespace Go.Proofs.Ytlpcbfndjffpfaa.tellMay
open Go.ChangeShapes Go.WideShapes Go.ChangeAt Go.RowKit
set_option linter.unusedVariables false

theorem own : ownKnob Try.prog.godebug = none := by kernel_rfl
theorem laidOut : laidOutB Try.prog = true := by kernel_rfl
theorem kind3 : Go.Abs.kindOf Try.prog 9 3 = some (.int .i64) := by kernel_rfl
theorem kind9 : Go.Abs.kindOf Try.prog 9 9 = some .str := by kernel_rfl
theorem kind90 : Go.Abs.kindOf Try.prog 9 90 = some (.cons (.int .i64) (.cons (.int .i64) (.cons (.int .i64) (.cons (.int .i64) (.cons (.int .i64) (.cons (.int .i64) (.cons .str (.cons (.cons .bool (.cons (.int .i64) (.cons (.int .i64) .nil))) (.cons (.slice 85 3 (.cons .bool (.cons (.int .i64) (.cons (.int .i64) .nil)))) (.cons (.slice 5 1 (.int .u8)) (.cons (.cons (.cons .bool (.cons (.int .i64) (.cons (.int .i64) .nil))) (.cons (.int .i64) (.cons (.int .i64) (.cons .str .nil)))) .nil))))))))))) := by kernel_rfl

theorem walk (w : World) (v0 : Value) (v1 : Value) (v2 : Value) (v3 : Value) (x0 : Go.Abs.Arg Try.prog w 90 v0) (x1 : Go.Abs.Arg Try.prog w 3 v1) (x2 : Go.Abs.Arg Try.prog w 3 v2) (x3 : Go.Abs.Arg Try.prog w 9 v3) :
    Calls Try.prog 11 #[v0, v1, v2, v3] w fun e w' => e = .returned (.bool true) ∧ Below w.heap.size w w' := by
  obtain ⟨y0, μ0, m0, r0, e0, s0, q0, p0, a0⟩ := x0.agg ti90 rfl kind90 Go.Abs.mu0 Go.Abs.M0 (Go.Abs.R.start w)
  obtain ⟨y1, μ1, m1, r1, e1, s1, q1, p1, a1⟩ := x1.one ti3 rfl rfl kind3 μ0 m0 r0
  obtain ⟨y2, μ2, m2, r2, e2, s2, q2, p2, a2⟩ := x2.one ti3 rfl rfl kind3 μ1 m1 r1
  obtain ⟨y3, μ3, m3, r3, e3, s3, q3, p3, a3⟩ := x3.one ti9 rfl rfl kind9 μ2 m2 r2
  have B0 := Go.Abs.K.A_step s3 (Go.Abs.K.A_step s2 (Go.Abs.K.A_step s1 (a0)))
  have B1 := Go.Abs.K.A_step s3 (Go.Abs.K.A_step s2 (a1))
  have B2 := Go.Abs.K.A_step s3 (a2)
  have B3 := a3
  have VV : Go.Abs.VRs μ3 0 [.agg y0, y1, y2, y3] [v0, v1, v2, v3] := (Go.Abs.VRs_cons (Go.Abs.VR_ext (e3 0) (Nat.le_refl _) (Go.Abs.VR_ext (e2 0) (Nat.le_refl _) (Go.Abs.VR_ext (e1 0) (Nat.le_refl _) p0))) (Go.Abs.VRs_cons (Go.Abs.VR_ext (e3 0) (Nat.le_refl _) (Go.Abs.VR_ext (e2 0) (Nat.le_refl _) p1)) (Go.Abs.VRs_cons (Go.Abs.VR_ext (e3 0) (Nat.le_refl _) p2) (Go.Abs.VRs_cons p3 Go.Abs.VRs_nil))))
  have hstk : m3.stk = [] := q3.trans (q2.trans (q1.trans (q0)))
  simp only [Go.Abs.K.A, List.cons.injEq, and_true] at B0 B1 B2 B3
  clear a0 a1 a2 a3
  obtain ⟨Hm, Sm⟩ := m3
  simp only at hstk
  subst hstk
  obtain ⟨_, _, rfl, ⟨n0_0, rfl, lo0_0, hi0_0⟩, ⟨_, _, rfl, ⟨n0_1, rfl, lo0_1, hi0_1⟩, ⟨_, _, rfl, ⟨n0_2, rfl, lo0_2, hi0_2⟩, ⟨_, _, rfl, ⟨n0_3, rfl, lo0_3, hi0_3⟩, ⟨_, _, rfl, ⟨n0_4, rfl, lo0_4, hi0_4⟩, ⟨_, _, rfl, ⟨n0_5, rfl, lo0_5, hi0_5⟩, ⟨_, _, rfl, ⟨l0_6, rfl, hl0_6⟩, ⟨_, _, rfl, ⟨_, _, rfl, ⟨b0_7, rfl⟩, ⟨_, _, rfl, ⟨n0_8, rfl, lo0_8, hi0_8⟩, ⟨_, _, rfl, ⟨n0_9, rfl, lo0_9, hi0_9⟩, rfl⟩⟩⟩, ⟨_, _, rfl, ⟨u0_10, css0_10, rfl, st0_10, of0_10, rd0_10, le0_10, ea0_10⟩, ⟨_, _, rfl, ⟨u0_11, css0_11, rfl, st0_11, of0_11, rd0_11, le0_11, ea0_11⟩, ⟨_, _, rfl, ⟨_, _, rfl, ⟨_, _, rfl, ⟨b0_12, rfl⟩, ⟨_, _, rfl, ⟨n0_13, rfl, lo0_13, hi0_13⟩, ⟨_, _, rfl, ⟨n0_14, rfl, lo0_14, hi0_14⟩, rfl⟩⟩⟩, ⟨_, _, rfl, ⟨n0_15, rfl, lo0_15, hi0_15⟩, ⟨_, _, rfl, ⟨n0_16, rfl, lo0_16, hi0_16⟩, ⟨_, _, rfl, ⟨l0_17, rfl, hl0_17⟩, rfl⟩⟩⟩⟩, rfl⟩⟩⟩⟩⟩⟩⟩⟩⟩⟩⟩ := B0
  obtain ⟨n1_0, rfl, lo1_0, hi1_0⟩ := B1
  obtain ⟨n2_0, rfl, lo2_0, hi2_0⟩ := B2
  obtain ⟨l3_0, rfl, hl3_0⟩ := B3
  try simp only [List.append_nil, List.cons_append, List.nil_append] at VV
  obtain ⟨q0, T0, T0', Q0⟩ := qids_of ea0_10
  rw [T0, T0'] at rd0_10
  obtain ⟨d0, D0⟩ := Go.Abs.bytes_rh st0_11 rd0_11 ea0_11
  simp [IntKind.min, IntKind.max, IntKind.signed, IntKind.bits] at lo0_0 hi0_0 lo0_1 hi0_1 lo0_2 hi0_2 lo0_3 hi0_3 lo0_4 hi0_4 lo0_5 hi0_5 lo0_8 hi0_8 lo0_9 hi0_9 lo0_13 hi0_13 lo0_14 hi0_14 lo0_15 hi0_15 lo0_16 hi0_16 lo1_0 hi1_0 lo2_0 hi2_0
  exact Go.Abs.calls_of_AC r3 VV (Go.Proofs.Ytlpcbfndjffpfaa.tellMay (a := ⟨n0_0, n0_1, n0_2, n0_3, n0_4, n0_5, l0_6, ⟨b0_7, n0_8, n0_9⟩, q0, d0, ⟨⟨b0_12, n0_13, n0_14⟩, n0_15, n0_16, l0_17⟩⟩) ⟨Go.Abs.RH.of rd0_10 (Go.Abs.AV.st_lev0 st0_10), of0_10⟩ D0 ⟨⟨lo0_0, (by omega : n0_0 < 9223372036854775808)⟩, ⟨lo0_1, (by omega : n0_1 < 9223372036854775808)⟩, ⟨lo0_2, (by omega : n0_2 < 9223372036854775808)⟩, ⟨lo0_3, (by omega : n0_3 < 9223372036854775808)⟩, ⟨lo0_4, (by omega : n0_4 < 9223372036854775808)⟩, ⟨lo0_5, (by omega : n0_5 < 9223372036854775808)⟩, ⟨lo0_8, (by omega : n0_8 < 9223372036854775808)⟩, ⟨lo0_9, (by omega : n0_9 < 9223372036854775808)⟩, ⟨lo0_13, (by omega : n0_13 < 9223372036854775808)⟩, ⟨lo0_14, (by omega : n0_14 < 9223372036854775808)⟩, ⟨lo0_15, (by omega : n0_15 < 9223372036854775808)⟩, ⟨lo0_16, (by omega : n0_16 < 9223372036854775808)⟩, Q0⟩ ⟨lo1_0, (by omega : n1_0 < 9223372036854775808)⟩ ⟨lo2_0, (by omega : n2_0 < 9223372036854775808)⟩) (fun v M' h => h)

set_option maxRecDepth 100000 in
theorem lifted (os : Os) (started : os.Started) (H : Type) (enc : TypeId × Value → H) :
    ReturnsInHanded {} Try.checked os 11 .any (Rows.tellMaySpec.pre6 enc Try.prog Try.f11 Rows.tellMayRow.domain false) (Rows.tellMaySpec.post enc Try.prog Try.f11 false true false false) := by
  refine returnsInHanded_of_change (C := Try.checked) own started (by kernel_rfl) Try.func11
    (ChangeSpec.witness6 (enc := enc) (C := Try.checked) false ⟨#[], #[.agg #[.int .i64 0, .int .i64 0, .int .i64 0, .int .i64 0, .int .i64 0, .int .i64 0, .string ⟨#[]⟩, .bool false, .int .i64 0, .int .i64 0, .slice none 0 0, .slice none 0 0, .bool false, .int .i64 0, .int .i64 0, .int .i64 0, .int .i64 0, .string ⟨#[]⟩], .int .i64 0, .int .i64 0, .string ⟨#[]⟩], []⟩ 8 (by kernel_rfl) (by kernel_rfl) (by kernel_rfl) (by kernel_rfl)) ?_
  intro W base args ds gs before hval0 hW hcnd _
  have hval : ∀ (j : Nat) t v, Try.f11.params[j]? = some t → args[j]? = some v → Value.okWide Try.prog W .any base t v := hval0
  have hW' := hW
  obtain ⟨p, q, hA0, hV, rfl, hfz, hnd⟩ := hW
  have hA : DataW.TrodAll enc Try.prog W 0 (fun _ => true) true Try.f11.params.toList args.toList ds p := hA0
  rw [Try.params11] at hA hval
  obtain ⟨v0, vs0, d0, ds0, p0, q0, hargs, rfl, rfl, h0, r0⟩ := trodAll_cons hA
  obtain ⟨v1, vs1, d1, ds1, p1, q1, rfl, rfl, rfl, h1, r1⟩ := trodAll_cons r0
  obtain ⟨v2, vs2, d2, ds2, p2, q2, rfl, rfl, rfl, h2, r2⟩ := trodAll_cons r1
  obtain ⟨v3, vs3, d3, ds3, p3, q3, rfl, rfl, rfl, h3, r3⟩ := trodAll_cons r2
  obtain ⟨rfl, rfl, rfl⟩ := trodAll_nil r3
  obtain rfl : args = #[v0, v1, v2, v3] := by cases args; simp_all
  obtain ⟨rfl, rfl⟩ := trodVars_none hV
  have lt0 : ∀ x ∈ p0, x.block < W.heap.size := by obtain ⟨m, hm⟩ := h0; exact DataW.trod_lt m _ _ _ hm
  have x0 : Go.Abs.Arg Try.prog W 90 v0 := ⟨⟨base, hval 0 90 v0 rfl rfl⟩, H, enc, d0, p0, h0⟩
  have lt1 : ∀ x ∈ p1, x.block < W.heap.size := by obtain ⟨m, hm⟩ := h1; exact DataW.trod_lt m _ _ _ hm
  have x1 : Go.Abs.Arg Try.prog W 3 v1 := ⟨⟨base, hval 1 3 v1 rfl rfl⟩, H, enc, d1, p1, h1⟩
  have lt2 : ∀ x ∈ p2, x.block < W.heap.size := by obtain ⟨m, hm⟩ := h2; exact DataW.trod_lt m _ _ _ hm
  have x2 : Go.Abs.Arg Try.prog W 3 v2 := ⟨⟨base, hval 2 3 v2 rfl rfl⟩, H, enc, d2, p2, h2⟩
  have lt3 : ∀ x ∈ p3, x.block < W.heap.size := by obtain ⟨m, hm⟩ := h3; exact DataW.trod_lt m _ _ _ hm
  have x3 : Go.Abs.Arg Try.prog W 9 v3 := ⟨⟨base, hval 3 9 v3 rfl rfl⟩, H, enc, d3, p3, h3⟩
  clear hA0 hval0
  refine (walk W v0 v1 v2 v3 x0 x1 x2 x3).mono fun e W' ⟨he, bel⟩ => ?_
  subst he
  exact ⟨_, rfl, _, _, _, [], _, [], hW', trodAll_mk1 (shut_bool Try.underlying4 _), (trodAll_cons_mk (Below.trod laidOut (by kernel_rfl) (of_decide_eq_true (by kernel_rfl)) h0 bel lt0) (trodAll_cons_mk (Below.trod laidOut (by kernel_rfl) (of_decide_eq_true (by kernel_rfl)) h1 bel lt1) (trodAll_cons_mk (Below.trod laidOut (by kernel_rfl) (of_decide_eq_true (by kernel_rfl)) h2 bel lt2) (trodAll_cons_mk (Below.trod laidOut (by kernel_rfl) (of_decide_eq_true (by kernel_rfl)) h3 bel lt3) trodAll_mk0)))), rfl, bel.frame _, fun h => by cases h⟩

theorem over : Rows.tellMayRow.holds Try.pinned (OpenSpec.ofChange Rows.tellMaySpec) :=
  OpenClaim.holds_of_wide 11 Try.f11 rfl rfl rfl rfl rfl rfl rfl ⟨rfl, rfl, rfl, rfl, rfl⟩ rfl rfl rfl rfl rfl (by kernel_rfl) Try.func11 (by kernel_rfl)
    (of_decide_eq_true (by kernel_rfl)) (by unfold Func.isWrapper; first | (rw [if_pos (by decide +kernel)]; kernel_rfl) | (rw [if_neg (by decide +kernel)]; exact ⟨rfl, rfl⟩))
    (fun os started H enc _ => lifted os started H enc)

end Go.Proofs.Ytlpcbfndjffpfaa.tellMay
namespace Go.Proofs.Ytlpcbfndjffpfaa
theorem tellMay_holds : Rows.TellMaySaid := tellMay.over
end Go.Proofs.Ytlpcbfndjffpfaa
