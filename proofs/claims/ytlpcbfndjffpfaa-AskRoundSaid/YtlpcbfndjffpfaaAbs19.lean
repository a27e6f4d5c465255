/- Rules for stepping. -/
import Derived.Test.YtlpcbfndjffpfaaAbs18
set_option linter.unusedVariables false
set_option linter.unnecessarySimpa false
set_option linter.unusedSimpArgs false
namespace Go.Abs
open Go.RowKit (Below)

section
variable {env : List AV} {next : List AV → Mem → Prop} {Q : Ex → List AV → Mem → Prop}
@[go_sem] theorem then_norm : Ex.then next Q .norm = next := (rfl)
@[go_sem] theorem then_ret : Ex.then next Q .ret = Q .ret := (rfl)
@[go_sem] theorem then_exit {i : Nat} : Ex.then next Q (.exit i) = Q (.exit i) := (rfl)
@[go_sem] theorem then_goto {i : Nat} : Ex.then next Q (.goto i) = Q (.goto i) := (rfl)
@[go_sem] theorem inBlock_norm {id : Nat} : Ex.inBlock id Q .norm = Q .norm := (rfl)
@[go_sem] theorem inBlock_ret {id : Nat} : Ex.inBlock id Q .ret = Q .ret := (rfl)
@[go_sem] theorem inBlock_goto {id i : Nat} : Ex.inBlock id Q (.goto i) = Q (.goto i) := (rfl)
@[go_sem] theorem inBlock_self {id : Nat} : Ex.inBlock id Q (.exit id) = Q .norm := if_pos rfl
theorem inBlock_exit {id i : Nat} : Ex.inBlock id Q (.exit i) = if i = id then Q .norm else Q (.exit i) := rfl
@[go_sem] theorem ev_tmp {t : Tmp} : ev env (.tmp t) = env.getD t .undef := (rfl)
@[go_sem] theorem ev_func {f : FuncId} : ev env (.func f) = .fn (.func f) [] [] := (rfl)
@[go_sem] theorem ev_int {k : IntKind} {n : Int} : ev env (.const (.int k n)) = .int k n := (rfl)
@[go_sem] theorem ev_bool {b : Bool} : ev env (.const (.bool b)) = .bool b := (rfl)
@[go_sem] theorem ev_nilsl : ev env (.const (.slice none 0 0)) = .nilsl := (rfl)
attribute [go_sem] List.set_cons_zero List.set_cons_succ List.getD_cons_zero List.getD_cons_succ List.map_cons List.map_nil Option.map_some Option.map_none List.nil_append List.append_nil List.cons_append List.contains_cons List.contains_nil Nat.reduceBEq Bool.true_or Bool.false_or Bool.or_true Bool.or_false beq_self_eq_true
end

@[go_sem] theorem minA_int {k k' : IntKind} {x y : Int} : minA [.int k x, .int k' y] = some (.int k (if y < x then y else x)) := (rfl)
@[go_sem] theorem maxA_int {k k' : IntKind} {x y : Int} : maxA [.int k x, .int k' y] = some (.int k (if y > x then y else x)) := (rfl)
/-- A loop, by what holds at the head of each round; the measure falls. -/
theorem L_inv {P : Program} {c : Code} {Q : Ex → List AV → Mem → Prop} (I : Nat → List AV → Mem → Prop) (h : ∀ j env M, I j env M → W P c (Ex.then (fun env' M' => ∃ j', j' < j ∧ I j' env' M') Q) env M) {env : List AV} {M : Mem} (j : Nat) (h0 : I j env M) : L P c Q env M := by
  induction j using Nat.strongRecOn generalizing env M with
  | ind j ih =>
    refine L_step (W_mono (h j env M h0) fun e env' M' hq => ?_)
    cases e with
    | norm => obtain ⟨j', hj, hi⟩ := hq; exact ih j' hj hi
    | exit id => exact hq
    | goto l => exact hq
    | ret => exact hq
end Go.Abs
