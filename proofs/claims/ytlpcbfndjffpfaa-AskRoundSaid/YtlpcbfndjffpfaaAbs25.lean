/- Drawn regions in which no read floats past a write: the text-order walk serves, in an order of the prover's choice. -/
import Derived.Test.YtlpcbfndjffpfaaAbs24
set_option linter.unusedVariables false
set_option linter.unnecessarySimpa false
set_option linter.unusedSimpArgs false
namespace Go.Abs
open Go.RowKit (Below)

/-- Operations that change no memory. -/
def quietOp (P : Program) : Op → Bool
  | .move _ | .assign _ | .pick .. | .build .. | .nilCheck _ | .binOp .. | .unOp .. | .field .. | .index .. | .extract .. | .makeFunc .. | .load .. | .fieldAddr .. | .indexAddr .. | .lookup .. | .slice .. => true
  | .convert _ t _ => match ti P t with | some j => (match j.desc with | .slice _ => false | _ => true) | none => false
  | .call { callee := .builtin .len, .. } | .call { callee := .builtin .min, .. } | .call { callee := .builtin .max, .. } => true
  | _ => false

theorem pureV_mem {v : Option AV} {M : Mem} {r : AV} {M' : Mem} (h : pureV v M = some (r, M')) : M' = M := (pureV_some h).2
theorem opA_quiet {P : Program} {hp : List Nat} {o : Oper} {env : List AV} {M M1 : Mem} {v : AV} (hq : quietOp P o.op = true) (h : opA P hp o env M = some (v, M1)) : M1 = M := by
  obtain ⟨d, op, ty, pos, af, g⟩ := o
  simp only at hq
  cases op <;> first | (simp [quietOp] at hq; done) | skip
  all_goals simp only [opA] at h
  case move => cases h; rfl
  case assign => cases h; rfl
  case pick => split at h <;> first | (cases h; rfl) | cases h
  case build => exact pureV_mem h
  case load => exact pureV_mem h
  case nilCheck => exact pureV_mem h
  case binOp =>
    split at h
    · exact pureV_mem h
    · cases h
  case unOp => exact pureV_mem h
  case makeFunc => cases h; rfl
  case slice =>
    split at h
    · split at h
      · cases h
      · exact pureV_mem h
    · cases h
  case fieldAddr => exact pureV_mem h
  case field => exact pureV_mem h
  case indexAddr => exact pureV_mem h
  case index => exact pureV_mem h
  case lookup => exact pureV_mem h
  case extract => exact pureV_mem h
  case convert =>
    rename_i s t x
    simp only [quietOp] at hq
    unfold convA at h
    split at h
    · rename_i i j hi hj
      rw [hj] at hq
      simp only at hq
      split at h <;> first | (cases h; rfl) | skip
      · rename_i hd1 hd2 _; simp only [hd2] at hq; cases hq
      · split at h
        · split at h
          · split at h
            · rw [Option.map_eq_some_iff] at h
              obtain ⟨s', _, h⟩ := h
              cases h; rfl
            · cases h
          · cases h
        · cases h
      · cases h
    · cases h
  case call =>
    rename_i c
    obtain ⟨callee, args, ts⟩ := c
    cases callee <;> first | (simp [quietOp] at hq; done) | skip
    rename_i b
    cases b <;> first | (simp [quietOp] at hq; done) | skip
    all_goals
      simp only [builtinA] at h
      first
      | exact pureV_mem h
      | (split at h <;> first | exact pureV_mem h | contradiction | (simp_all; done))

theorem quiet_not_call {P : Program} {op : Op} (h : quietOp P op = true) : isCall op = false := by
  cases op <;> first | rfl | skip
  rename_i c
  obtain ⟨callee, args, ts⟩ := c
  cases callee <;> first | rfl | (simp [quietOp] at h; done)

def calmL (P : Program) (T ls : List Nat) : List (Nat × Oper) → Bool
  | [] => true
  | (i, o) :: l => (ls.contains i || (quietOp P o.op && (pureOp o.op || l.all fun p => !ls.contains p.1 || (decide (p.1 < T.length) && (T.getD p.1 0).testBit i)))) && calmL P T ls l

theorem AT_AD {P : Program} {hp : List Nat} {ops : Array Oper} {T ls : List Nat} (hT : ancTab ops.toList [] = some T) {K : List AV → Mem → Prop} : ∀ (l : List (Nat × Oper)) (hist : List (Nat × (Mem → Prop))) (env : List AV) (M : Mem), calmL P T ls l = true →
    (∀ h, h ∈ hist → ∀ p, p ∈ l → ls.contains p.1 = true → ancB ops ops.size h.1 p.1 = true) → AT P hp ops (l.map (·.2)) K env M → AD P hp ops ls l hist K env M
  | [], hist, env, M, hc, hh, h => h
  | (i, o) :: l, hist, env, M, hc, hh, h => by
    simp only [calmL, Bool.and_eq_true, Bool.or_eq_true] at hc
    obtain ⟨hc1, hc2⟩ := hc
    have hh' : ∀ h, h ∈ hist → ∀ p, p ∈ l → ls.contains p.1 = true → ancB ops ops.size h.1 p.1 = true := fun h hm p hp => hh h hm p (List.mem_cons_of_mem _ hp)
    simp only [List.map_cons, AT] at h
    simp only [AD]
    cases hwd : wantedA ops o env with
    | none => simp only [hwd] at h
    | some b =>
      simp only [hwd] at h
      cases b with
      | false => exact AT_AD hT l hist _ _ hc2 hh' h
      | true =>
        simp only at h ⊢
        split
        · rename_i hl
          have hvac : ∀ (M' : Mem) (hs : List (Nat × (Mem → Prop))), (∀ x, x ∈ hs → x ∈ hist) → histOK ops i M' hs := by
            intro M' hs
            induction hs with
            | nil => intro _; trivial
            | cons x hs ih =>
              intro hm
              refine ⟨fun ha => ?_, ih fun y hy => hm y (List.mem_cons_of_mem _ hy)⟩
              rw [hh x (hm x List.mem_cons_self) (i, o) List.mem_cons_self hl] at ha
              cases ha
          have key : OpW P o env M fun v M' => AT P hp ops (l.map (·.2)) K (putA env o.dst v) M' := by
            split at h
            · rename_i r hr
              exact OpW.of_opA (hp := hp) (v := r.1) (M' := r.2) hr h
            · split at h
              · exact h
              · exact h.elim
          exact key.mono fun v M' hq => ⟨hvac M' hist fun x hx => hx, AT_AD hT l hist _ _ hc2 hh' hq⟩
        · rename_i hl
          rcases hc1 with hc1 | ⟨hq, hc1⟩
          · exact absurd hc1 hl
          · split at h
            · rename_i r hr
              obtain ⟨v, M1⟩ := r
              have hM := opA_quiet hq hr
              subst hM
              split
              · exact ⟨v, hr, AT_AD hT l hist _ _ hc2 hh' h⟩
              · rename_i hpu
                refine ⟨v, (· = M1), fun M' e => by rw [e]; exact .inl hr, rfl, AT_AD hT l _ _ _ hc2 (fun x hx p hp hlp => ?_) h⟩
                rcases List.mem_cons.1 hx with rfl | hx
                · rcases hc1 with hc1 | hc1
                  · exact absurd hc1 hpu
                  · rw [List.all_eq_true] at hc1
                    have h1 := hc1 p hp
                    rw [hlp] at h1
                    simp only [Bool.not_true, Bool.false_or, Bool.and_eq_true, decide_eq_true_eq] at h1
                    have hok := ancTab_ok (ops := ops) ops.toList [] T (by simp) (Nat.zero_le _) (fun j hj => by simp at hj) hT
                    exact (hok.1 p.1 h1.1 ops.size i (by rw [← hok.2]; exact h1.1)).1 h1.2
                · exact hh' x hx p hp hlp
            · have : isCall o.op = false := quiet_not_call hq
              rw [this] at h
              simp at h

/-- A drawn region in which no read floats past a write. -/
theorem W_regionC {P : Program} {Q : Ex → List AV → Mem → Prop} {env : List AV} {M : Mem} {id : Nat} {ops : Array Oper} (hp ls L T : List Nat) (hm : P.follows .mixedOrders = true) (hT : ancTab ops.toList [] = some T) (hok : fastOK ops T ls L = true) (hin : allIn ops L = true) (hc : calmL P T ls (listed ops L) = true)
    (h : AT P hp ops ((listed ops L).map (·.2)) (Q .norm) env M) : W P (.region id ops true) Q env M :=
  W_regionD hp ls L T hm hT hok hin (AT_AD hT _ _ _ _ hc (fun h hx => by cases hx) h)
end Go.Abs
