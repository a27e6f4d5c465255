/- TellRoom holds: the law answers true, whatever the input, and the input reads as it did. The walk is over the abstract machine. -/
import Derived.Test.YtlpcbfndjffpfaaRows
import Derived.WalkKit
import Derived.ProofKit
import Derived.OpenShut
import Derived.ShutString
import Derived.ChangeOld
import Derived.Below
import Derived.Test.YtlpcbfndjffpfaaTells3
import Derived.Test.YtlpcbfndjffpfaaAbs28
namespace Go.Proofs.Ytlpcbfndjffpfaa.tellRoom
open Go.ChangeShapes Go.WideShapes Go.ChangeAt Go.RowKit
set_option linter.unusedVariables false

theorem own : ownKnob Try.prog.godebug = none := by kernel_rfl
theorem laidOut : laidOutB Try.prog = true := by kernel_rfl
theorem kind3 : Go.Abs.kindOf Try.prog 9 3 = some (.int .i64) := by kernel_rfl

theorem walk (w : World) (v0 : Value) (v1 : Value) (v2 : Value) (x0 : Go.Abs.Arg Try.prog w 3 v0) (x1 : Go.Abs.Arg Try.prog w 3 v1) (x2 : Go.Abs.Arg Try.prog w 3 v2) :
    Calls Try.prog 14 #[v0, v1, v2] w fun e w' => e = .returned (.bool true) ∧ Below w.heap.size w w' := by
  obtain ⟨y0, μ0, m0, r0, e0, s0, q0, p0, a0⟩ := x0.one ti3 rfl rfl kind3 Go.Abs.mu0 Go.Abs.M0 (Go.Abs.R.start w)
  obtain ⟨y1, μ1, m1, r1, e1, s1, q1, p1, a1⟩ := x1.one ti3 rfl rfl kind3 μ0 m0 r0
  obtain ⟨y2, μ2, m2, r2, e2, s2, q2, p2, a2⟩ := x2.one ti3 rfl rfl kind3 μ1 m1 r1
  have B0 := Go.Abs.K.A_step s2 (Go.Abs.K.A_step s1 (a0))
  have B1 := Go.Abs.K.A_step s2 (a1)
  have B2 := a2
  have VV : Go.Abs.VRs μ2 0 [y0, y1, y2] [v0, v1, v2] := (Go.Abs.VRs_cons (Go.Abs.VR_ext (e2 0) (Nat.le_refl _) (Go.Abs.VR_ext (e1 0) (Nat.le_refl _) p0)) (Go.Abs.VRs_cons (Go.Abs.VR_ext (e2 0) (Nat.le_refl _) p1) (Go.Abs.VRs_cons p2 Go.Abs.VRs_nil)))
  have hstk : m2.stk = [] := q2.trans (q1.trans (q0))
  simp only [Go.Abs.K.A, List.cons.injEq, and_true] at B0 B1 B2
  clear a0 a1 a2
  obtain ⟨Hm, Sm⟩ := m2
  simp only at hstk
  subst hstk
  obtain ⟨n0_0, rfl, lo0_0, hi0_0⟩ := B0
  obtain ⟨n1_0, rfl, lo1_0, hi1_0⟩ := B1
  obtain ⟨n2_0, rfl, lo2_0, hi2_0⟩ := B2
  try simp only [List.append_nil, List.cons_append, List.nil_append] at VV
  simp [IntKind.min, IntKind.max, IntKind.signed, IntKind.bits] at lo0_0 hi0_0 lo1_0 hi1_0 lo2_0 hi2_0
  exact Go.Abs.calls_of_AC r2 VV (Go.Proofs.Ytlpcbfndjffpfaa.tellRoom ⟨lo0_0, by omega⟩) (fun v M' h => h)

set_option maxRecDepth 100000 in
theorem lifted (os : Os) (started : os.Started) (H : Type) (enc : TypeId × Value → H) :
    ReturnsInHanded {} Try.checked os 14 .any (Rows.tellRoomSpec.pre6 enc Try.prog Try.f14 Rows.tellRoomRow.domain false) (Rows.tellRoomSpec.post enc Try.prog Try.f14 false true false false) := by
  refine returnsInHanded_of_change (C := Try.checked) own started (by kernel_rfl) Try.func14
    (ChangeSpec.witness6 (enc := enc) (C := Try.checked) false ⟨#[], #[.int .i64 0, .int .i64 0, .int .i64 0], []⟩ 8 (by kernel_rfl) (by kernel_rfl) (by kernel_rfl) (by kernel_rfl)) ?_
  intro W base args ds gs before hval0 hW hcnd _
  have hval : ∀ (j : Nat) t v, Try.f14.params[j]? = some t → args[j]? = some v → Value.okWide Try.prog W .any base t v := hval0
  have hW' := hW
  obtain ⟨p, q, hA0, hV, rfl, hfz, hnd⟩ := hW
  have hA : DataW.TrodAll enc Try.prog W 0 (fun _ => true) true Try.f14.params.toList args.toList ds p := hA0
  rw [Try.params14] at hA hval
  obtain ⟨v0, vs0, d0, ds0, p0, q0, hargs, rfl, rfl, h0, r0⟩ := trodAll_cons hA
  obtain ⟨v1, vs1, d1, ds1, p1, q1, rfl, rfl, rfl, h1, r1⟩ := trodAll_cons r0
  obtain ⟨v2, vs2, d2, ds2, p2, q2, rfl, rfl, rfl, h2, r2⟩ := trodAll_cons r1
  obtain ⟨rfl, rfl, rfl⟩ := trodAll_nil r2
  obtain rfl : args = #[v0, v1, v2] := by cases args; simp_all
  obtain ⟨rfl, rfl⟩ := trodVars_none hV
  have lt0 : ∀ x ∈ p0, x.block < W.heap.size := by obtain ⟨m, hm⟩ := h0; exact DataW.trod_lt m _ _ _ hm
  have x0 : Go.Abs.Arg Try.prog W 3 v0 := ⟨⟨base, hval 0 3 v0 rfl rfl⟩, H, enc, d0, p0, h0⟩
  have lt1 : ∀ x ∈ p1, x.block < W.heap.size := by obtain ⟨m, hm⟩ := h1; exact DataW.trod_lt m _ _ _ hm
  have x1 : Go.Abs.Arg Try.prog W 3 v1 := ⟨⟨base, hval 1 3 v1 rfl rfl⟩, H, enc, d1, p1, h1⟩
  have lt2 : ∀ x ∈ p2, x.block < W.heap.size := by obtain ⟨m, hm⟩ := h2; exact DataW.trod_lt m _ _ _ hm
  have x2 : Go.Abs.Arg Try.prog W 3 v2 := ⟨⟨base, hval 2 3 v2 rfl rfl⟩, H, enc, d2, p2, h2⟩
  clear hA0 hval0
  refine (walk W v0 v1 v2 x0 x1 x2).mono fun e W' ⟨he, bel⟩ => ?_
  subst he
  exact ⟨_, rfl, _, _, _, [], _, [], hW', trodAll_mk1 (shut_bool Try.underlying4 _), (trodAll_cons_mk (Below.trod laidOut (by kernel_rfl) (of_decide_eq_true (by kernel_rfl)) h0 bel lt0) (trodAll_cons_mk (Below.trod laidOut (by kernel_rfl) (of_decide_eq_true (by kernel_rfl)) h1 bel lt1) (trodAll_cons_mk (Below.trod laidOut (by kernel_rfl) (of_decide_eq_true (by kernel_rfl)) h2 bel lt2) trodAll_mk0))), rfl, bel.frame _, fun h => by cases h⟩

theorem over : Rows.tellRoomRow.holds Try.pinned (OpenSpec.ofChange Rows.tellRoomSpec) :=
  OpenClaim.holds_of_wide 14 Try.f14 rfl rfl rfl rfl rfl rfl rfl ⟨rfl, rfl, rfl, rfl, rfl⟩ rfl rfl rfl rfl rfl (by kernel_rfl) Try.func14 (by kernel_rfl)
    (of_decide_eq_true (by kernel_rfl)) (by unfold Func.isWrapper; first | (rw [if_pos (by decide +kernel)]; kernel_rfl) | (rw [if_neg (by decide +kernel)]; exact ⟨rfl, rfl⟩))
    (fun os started H enc _ => lifted os started H enc)

end Go.Proofs.Ytlpcbfndjffpfaa.tellRoom
namespace Go.Proofs.Ytlpcbfndjffpfaa
theorem tellRoom_holds : Rows.TellRoomSaid := tellRoom.over
end Go.Proofs.Ytlpcbfndjffpfaa
