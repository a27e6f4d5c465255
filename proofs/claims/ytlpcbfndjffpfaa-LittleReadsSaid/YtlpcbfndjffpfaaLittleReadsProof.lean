/- LittleReads holds: the law answers true, whatever the input, and the input reads as it did. The walk is over the abstract machine. -/
import Derived.Test.YtlpcbfndjffpfaaRows
import Derived.WalkKit
import Derived.ProofKit
import Derived.OpenShut
import Derived.ShutString
import Derived.ChangeOld
import Derived.Below
import Derived.Test.YtlpcbfndjffpfaaLittle
import Derived.Test.YtlpcbfndjffpfaaAbs28
namespace Go.Proofs.Ytlpcbfndjffpfaa.littleReads
open Go.ChangeShapes Go.WideShapes Go.ChangeAt Go.RowKit
set_option linter.unusedVariables false

theorem own : ownKnob Try.prog.godebug = none := by kernel_rfl
theorem laidOut : laidOutB Try.prog = true := by kernel_rfl
theorem kind22 : Go.Abs.kindOf Try.prog 9 22 = some (.slice 5 1 (.int .u8)) := by kernel_rfl
theorem kind40 : Go.Abs.kindOf Try.prog 9 40 = some (.slice 47 2 (.cons (.int .i64) (.cons (.int .i64) .nil))) := by kernel_rfl

theorem walk (w : World) (v0 : Value) (v1 : Value) (x0 : Go.Abs.Arg Try.prog w 22 v0) (x1 : Go.Abs.Arg Try.prog w 40 v1) :
    Calls Try.prog 4 #[v0, v1] w fun e w' => e = .returned (.bool true) ∧ Below w.heap.size w w' := by
  obtain ⟨y0, μ0, m0, r0, e0, s0, q0, p0, a0⟩ := x0.one ti22 rfl rfl kind22 Go.Abs.mu0 Go.Abs.M0 (Go.Abs.R.start w)
  obtain ⟨y1, μ1, m1, r1, e1, s1, q1, p1, a1⟩ := x1.one ti40 rfl rfl kind40 μ0 m0 r0
  have B0 := Go.Abs.K.A_step s1 (a0)
  have B1 := a1
  have VV : Go.Abs.VRs μ1 0 [y0, y1] [v0, v1] := (Go.Abs.VRs_cons (Go.Abs.VR_ext (e1 0) (Nat.le_refl _) p0) (Go.Abs.VRs_cons p1 Go.Abs.VRs_nil))
  have hstk : m1.stk = [] := q1.trans (q0)
  simp only [Go.Abs.K.A, List.cons.injEq, and_true] at B0 B1
  clear a0 a1
  obtain ⟨Hm, Sm⟩ := m1
  simp only at hstk
  subst hstk
  obtain ⟨u0_0, css0_0, rfl, st0_0, of0_0, rd0_0, le0_0, ea0_0⟩ := B0
  obtain ⟨u1_0, css1_0, rfl, st1_0, of1_0, rd1_0, le1_0, ea1_0⟩ := B1
  try simp only [List.append_nil, List.cons_append, List.nil_append] at VV
  obtain ⟨b, hb⟩ := Go.Abs.bytes_rh st0_0 rd0_0 ea0_0
  refine Go.Abs.calls_of_AC r1 VV (Go.Proofs.Ytlpcbfndjffpfaa.littleReads (b := b) hb (Go.Abs.RH.of rd1_0 (Go.Abs.AV.st_lev0 st1_0)) of1_0 (by unfold Go.maxLen at le1_0; omega) (fun x hx => ?_)) (fun v M' h => h)
  obtain ⟨_, ys, zs, rfl, ⟨p, rfl, p1, p2⟩, ys', zs', rfl, ⟨q, rfl, q1, q2⟩, rfl⟩ := ea1_0 x hx
  simp [IntKind.min, IntKind.max, IntKind.signed, IntKind.bits] at p1 p2 q1 q2
  exact ⟨p, q, rfl, ⟨p1, by omega⟩, ⟨q1, by omega⟩⟩

set_option maxRecDepth 100000 in
theorem lifted (os : Os) (started : os.Started) (H : Type) (enc : TypeId × Value → H) :
    ReturnsInHanded {} Try.checked os 4 .any (Rows.littleReadsSpec.pre6 enc Try.prog Try.f4 Rows.littleReadsRow.domain false) (Rows.littleReadsSpec.post enc Try.prog Try.f4 false true false false) := by
  refine returnsInHanded_of_change (C := Try.checked) own started (by kernel_rfl) Try.func4
    (ChangeSpec.witness6 (enc := enc) (C := Try.checked) false ⟨#[], #[.slice none 0 0, .slice none 0 0], []⟩ 8 (by kernel_rfl) (by kernel_rfl) (by kernel_rfl) (by kernel_rfl)) ?_
  intro W base args ds gs before hval0 hW hcnd _
  have hval : ∀ (j : Nat) t v, Try.f4.params[j]? = some t → args[j]? = some v → Value.okWide Try.prog W .any base t v := hval0
  have hW' := hW
  obtain ⟨p, q, hA0, hV, rfl, hfz, hnd⟩ := hW
  have hA : DataW.TrodAll enc Try.prog W 0 (fun _ => true) true Try.f4.params.toList args.toList ds p := hA0
  rw [Try.params4] at hA hval
  obtain ⟨v0, vs0, d0, ds0, p0, q0, hargs, rfl, rfl, h0, r0⟩ := trodAll_cons hA
  obtain ⟨v1, vs1, d1, ds1, p1, q1, rfl, rfl, rfl, h1, r1⟩ := trodAll_cons r0
  obtain ⟨rfl, rfl, rfl⟩ := trodAll_nil r1
  obtain rfl : args = #[v0, v1] := by cases args; simp_all
  obtain ⟨rfl, rfl⟩ := trodVars_none hV
  have lt0 : ∀ x ∈ p0, x.block < W.heap.size := by obtain ⟨m, hm⟩ := h0; exact DataW.trod_lt m _ _ _ hm
  have x0 : Go.Abs.Arg Try.prog W 22 v0 := ⟨⟨base, hval 0 22 v0 rfl rfl⟩, H, enc, d0, p0, h0⟩
  have lt1 : ∀ x ∈ p1, x.block < W.heap.size := by obtain ⟨m, hm⟩ := h1; exact DataW.trod_lt m _ _ _ hm
  have x1 : Go.Abs.Arg Try.prog W 40 v1 := ⟨⟨base, hval 1 40 v1 rfl rfl⟩, H, enc, d1, p1, h1⟩
  clear hA0 hval0
  refine (walk W v0 v1 x0 x1).mono fun e W' ⟨he, bel⟩ => ?_
  subst he
  exact ⟨_, rfl, _, _, _, [], _, [], hW', trodAll_mk1 (shut_bool Try.underlying4 _), (trodAll_cons_mk (Below.trod laidOut (by kernel_rfl) (of_decide_eq_true (by kernel_rfl)) h0 bel lt0) (trodAll_cons_mk (Below.trod laidOut (by kernel_rfl) (of_decide_eq_true (by kernel_rfl)) h1 bel lt1) trodAll_mk0)), rfl, bel.frame _, fun h => by cases h⟩

theorem over : Rows.littleReadsRow.holds Try.pinned (OpenSpec.ofChange Rows.littleReadsSpec) :=
  OpenClaim.holds_of_wide 4 Try.f4 rfl rfl rfl rfl rfl rfl rfl ⟨rfl, rfl, rfl, rfl, rfl⟩ rfl rfl rfl rfl rfl (by kernel_rfl) Try.func4 (by kernel_rfl)
    (of_decide_eq_true (by kernel_rfl)) (by unfold Func.isWrapper; first | (rw [if_pos (by decide +kernel)]; kernel_rfl) | (rw [if_neg (by decide +kernel)]; exact ⟨rfl, rfl⟩))
    (fun os started H enc _ => lifted os started H enc)

end Go.Proofs.Ytlpcbfndjffpfaa.littleReads
namespace Go.Proofs.Ytlpcbfndjffpfaa
theorem littleReads_holds : Rows.LittleReadsSaid := littleReads.over
end Go.Proofs.Ytlpcbfndjffpfaa
