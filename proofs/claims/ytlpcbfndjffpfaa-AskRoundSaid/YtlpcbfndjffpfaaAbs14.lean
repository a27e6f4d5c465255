/- Regions: in the text's order, and in whatever order. -/
import Derived.Test.YtlpcbfndjffpfaaAbs13
import Derived.Orders
set_option linter.unusedVariables false
set_option linter.unnecessarySimpa false
set_option linter.unusedSimpArgs false
namespace Go.Abs
open Go.RowKit (Below)

def putA (env : List AV) (dst : Option Tmp) (v : AV) : List AV := match dst with | some d => env.set d v | none => env
theorem EnvR_put {μ : Mu} {d : Nat} {env : List AV} {a : Act} {v : AV} {cv : Value} (h : EnvR μ d env a) (hv : VR μ d v cv) (dst : Option Tmp) : EnvR μ d (putA env dst v) (a.put dst cv) := by
  cases dst with
  | none => exact h
  | some t =>
    unfold EnvR Act.put putA
    simp only [Array.toList_setIfInBounds]
    exact VRs_set t h hv

/-- What an operation's outcome may be, whatever stands behind it. -/
def OpW (P : Program) (o : Oper) (env : List AV) (M : Mem) (Post : AV → Mem → Prop) : Prop :=
  ∀ base μ w a (K : Act → World → Prop) (Q : Exit → Act → World → Prop), R base μ M w → 0 < M.depth → (∀ x, x ∈ o.op.operands → VR μ M.depth (ev env x) (a.eval x)) →
    (∀ v cv M' μ' w', VR μ' M.depth v cv → Okay base μ M w μ' M' w' → Post v M' → K (a.put o.dst cv) w') → o.wp P a w K Q

theorem OpW.mono {P : Program} {o : Oper} {env : List AV} {M : Mem} {Post Post' : AV → Mem → Prop} (h : OpW P o env M Post) (hp : ∀ v M', Post v M' → Post' v M') : OpW P o env M Post' :=
  fun base μ w a K Q hR h0 he hK => h base μ w a K Q hR h0 he fun v cv M' μ' w' hv ho hq => hK v cv M' μ' w' hv ho (hp v M' hq)
theorem OpW.congr {P : Program} {o : Oper} {env env' : List AV} {M : Mem} {Post : AV → Mem → Prop} (h : OpW P o env M Post) (he : ∀ x, x ∈ o.op.operands → ev env' x = ev env x) : OpW P o env' M Post :=
  fun base μ w a K Q hR h0 he' hK => h base μ w a K Q hR h0 (fun x hx => by rw [← he x hx]; exact he' x hx) hK
theorem OpW.of_opA {P : Program} {hp : List Nat} {o : Oper} {env : List AV} {M M' : Mem} {v : AV} {Post : AV → Mem → Prop} (h : opA P hp o env M = some (v, M')) (hq : Post v M') : OpW P o env M Post := by
  intro base μ w a K Q hR h0 he hK
  obtain ⟨w', μ', h1, h2⟩ := opA_ok hR h0 he h
  unfold Oper.wp
  rcases h1 with ⟨cv, h3, h4⟩ | ⟨h3, rfl⟩
  · rw [h3, Oper.upon_value]
    exact hK v cv M' μ' w' h4 h2 hq
  · rw [h3, Oper.upon_skip]
    exact hK .undef undef M' μ' w' (by simp [VR]) h2 hq

/-- Is an operation carried out? (Unknown: none.) -/
def wantedA (ops : Array Oper) (o : Oper) (env : List AV) : Option Bool :=
  match o.guard with
  | none => some true
  | some (j, want) =>
    match (ops[j]?).bind (·.dst) with
    | some t => match env[t]? with | some (.bool b) => some (b == want) | some (.tup []) => some false | _ => none
    | none => none
theorem wantedA_ok {ops : Array Oper} {o : Oper} {env : List AV} {μ : Mu} {d : Nat} {a : Act} {b : Bool} (h : EnvR μ d env a) (hw : wantedA ops o env = some b) : Region.wanted o (yielded ops a.tmps) = b := by
  unfold wantedA at hw
  unfold Region.wanted
  split at hw
  · rename_i hg; rw [hg]; cases hw; rfl
  · rename_i j want hg
    rw [hg]
    simp only
    split at hw
    · rename_i t ht
      split at hw
      · rename_i b' hb
        cases hw
        obtain ⟨y, hy, hv⟩ := VRs_get t h hb
        simp only [VR] at hv; subst hv
        have hy' : a.tmps[t]? = some (.bool b') := by simpa using hy
        simp [yielded, ht, hy']
      · rename_i hb
        cases hw
        obtain ⟨y, hy, hv⟩ := VRs_get t h hb
        simp only [VR] at hv
        obtain ⟨c, rfl, _⟩ := hv
        have hy' : a.tmps[t]? = some (.tuple c) := by simpa using hy
        simp [yielded, ht, hy']
      · cases hw
    · cases hw

/-- Operations that look at no memory. -/
def pureOp : Op → Bool
  | .move _ | .assign _ | .pick .. | .build .. | .nilCheck _ | .binOp .. | .unOp .. | .field .. | .index .. | .extract .. | .makeFunc .. => true
  | _ => false
theorem opA_pure {P : Program} {hp : List Nat} {o : Oper} {env : List AV} {M M1 : Mem} {v : AV} (hpu : pureOp o.op = true) (h : opA P hp o env M = some (v, M)) : opA P hp o env M1 = some (v, M1) := by
  unfold opA at h ⊢
  simp only at h ⊢
  split at h
  case h_27 => cases h
  all_goals (rename_i heq; rw [heq] at hpu)
  all_goals first
    | (simp [pureOp] at hpu; done)
    | skip
  all_goals try simp only [heq]
  all_goals first
    | (obtain ⟨h1, _⟩ := pureV_some h; rw [h1]; rfl)
    | (cases h; rfl)
    | skip
  · split at h
    · rename_i b hb; (try simp only [hb]); cases h; rfl
    · cases h
  · split at h
    · rename_i hc
      rw [if_pos hc]
      obtain ⟨h1, _⟩ := pureV_some h; rw [h1]; rfl
    · cases h

theorem opA_congr {P : Program} {hp : List Nat} {o : Oper} {env env' : List AV} {M : Mem} (he : ∀ x, x ∈ o.op.operands → ev env' x = ev env x) : opA P hp o env' M = opA P hp o env M := by
  unfold opA
  simp only
  have hmap : ∀ xs : List Operand, (∀ x, x ∈ xs → x ∈ o.op.operands) → xs.map (ev env') = xs.map (ev env) := fun xs hx => List.map_congr_left fun x h => he x (hx x h)
  have hmapp : ∀ xs : List (Nat × Operand), (∀ p, p ∈ xs → p.2 ∈ o.op.operands) → (xs.map fun p => (p.1, ev env' p.2)) = (xs.map fun p => (p.1, ev env p.2)) := fun xs hx => List.map_congr_left fun p h => by rw [he p.2 (hx p h)]
  have hmapo : ∀ x : Option Operand, (∀ y, x = some y → y ∈ o.op.operands) → x.map (ev env') = x.map (ev env) := fun x hx => by
    cases x with
    | none => rfl
    | some y => simp [he y (hx y rfl)]
  split <;> rename_i heq
  all_goals try rfl
  case h_6 =>
    rename_i t parts
    rw [hmapp parts.toList (fun p hp => by rw [heq]; simp only [Op.operands, List.mem_toArray, List.mem_map]; exact ⟨p, hp, rfl⟩)]
  case h_7 =>
    rename_i t n parts
    rw [hmapp parts.toList (fun p hp => by rw [heq]; simp only [Op.operands, List.mem_toArray, List.mem_map]; exact ⟨p, hp, rfl⟩)]
  case h_14 =>
    rename_i fn first caps
    rw [hmap first.toList (fun x hx => by rw [heq]; simp only [Op.operands, Array.mem_append]; exact .inl (by simpa using hx)), hmap caps.toList (fun x hx => by rw [heq]; simp only [Op.operands, Array.mem_append]; exact .inr (by simpa using hx))]
  case h_17 =>
    rename_i t x lo hi mx
    rw [he x (by rw [heq]; simp [Op.operands]), hmapo lo (fun y hy => by subst hy; rw [heq]; simp [Op.operands]), hmapo hi (fun y hy => by subst hy; rw [heq]; simp [Op.operands]), hmapo mx (fun y hy => by subst hy; rw [heq]; simp [Op.operands])]
  case h_26 =>
    rename_i b args ts
    rw [hmap args.toList (fun x hx => by rw [heq]; simp only [Op.operands, Call.operands]; simpa using hx)]
  all_goals
    repeat' first
      | rfl
      | rw [he _ (by rw [heq]; simp [Op.operands]; done)]


/-- Calls of a Go function. -/
def callOp : Op → Bool
  | .call { callee := .builtin _, .. } => false
  | .call _ => true
  | _ => false
/-- A quiet operation: it yields a value, and leaves memory as it was. -/
def Qt (P : Program) (hp : List Nat) (o : Oper) (env : List AV) (M : Mem) (v : AV) : Prop := opA P hp o env M = some (v, M) ∨ (callOp o.op = true ∧ OpW P o env M fun v' M' => v' = v ∧ M' = M)
theorem Qt.wp {P : Program} {hp : List Nat} {o : Oper} {env : List AV} {M : Mem} {v : AV} (h : Qt P hp o env M v) : OpW P o env M fun v' M' => v' = v ∧ M' = M := h.elim (fun h => OpW.of_opA h ⟨rfl, rfl⟩) (·.2)
theorem Qt.congr {P : Program} {hp : List Nat} {o : Oper} {env env' : List AV} {M : Mem} {v : AV} (h : Qt P hp o env M v) (he : ∀ x, x ∈ o.op.operands → ev env' x = ev env x) : Qt P hp o env' M v :=
  h.imp (fun h => by rw [opA_congr he]; exact h) (fun h => ⟨h.1, h.2.congr he⟩)
theorem Qt_congr {P : Program} {hp : List Nat} {o : Oper} {env env' : List AV} {M : Mem} {v : AV} (he : ∀ x, x ∈ o.op.operands → ev env' x = ev env x) : Qt P hp o env' M v = Qt P hp o env M v :=
  propext ⟨fun h => h.congr fun x hx => (he x hx).symm, fun h => h.congr he⟩
theorem Qt.pure {P : Program} {hp : List Nat} {o : Oper} {env : List AV} {M M1 : Mem} {v : AV} (hpu : pureOp o.op = true) (h : Qt P hp o env M v) : Qt P hp o env M1 v := by
  rcases h with h | ⟨h, _⟩
  · exact .inl (opA_pure hpu h)
  · exfalso
    cases ho : o.op <;> rw [ho] at h hpu <;> simp [pureOp, callOp] at h hpu

/-- Does operation j wait for operation i, at once or by way of others? -/
def ancB (ops : Array Oper) : Nat → Nat → Nat → Bool
  | 0, _, _ => false
  | n + 1, i, j => match ops[j]? with
    | some o => o.after.any fun e => Region.binds .any e && (e.on == i || ancB ops n i e.on)
    | none => false

/-- The walk through a region in an order of the prover's choice. 'ls': the operations that may change memory; of the others each must hold its value behind each of these that doesn't wait for it. -/
def AS (P : Program) (hp : List Nat) (ops : Array Oper) (dr : Bool) (ls : List Nat) : List Nat → List (Nat × (Mem → Prop)) → (List AV → Mem → Prop) → List AV → Mem → Prop
  | [], _, K, env, M => K env M
  | i :: L, hist, K, env, M =>
    match ops[i]? with
    | none => AS P hp ops dr ls L hist K env M
    | some o =>
      match wantedA ops o env with
      | none => False
      | some false => AS P hp ops dr ls L hist K (putA env o.dst (.tup [])) M
      | some true =>
        if ls.contains i = true then
          OpW P o env M fun v M' => (∀ h, h ∈ hist → ancB ops ops.size h.1 i = false → h.2 M') ∧ AS P hp ops dr ls L hist K (putA env o.dst v) M'
        else
          ∃ v, Qt P hp o env M v ∧ AS P hp ops dr ls L (if dr = true && !pureOp o.op then (i, fun M' => Qt P hp o env M' v) :: hist else hist) K (putA env o.dst v) M

/-- In the text's order. -/
theorem AS_text {P : Program} {hp : List Nat} {ops : Array Oper} {dr : Bool} {ls : List Nat} {Q : Exit → Act → World → Prop} : ∀ (L : List Nat) (hist : List (Nat × (Mem → Prop))) (K : List AV → Mem → Prop) (env : List AV) (M : Mem),
    AS P hp ops dr ls L hist K env M → ∀ (base : Nat) (μ : Mu) (a : Act) (w : World), R base μ M w → 0 < M.depth → EnvR μ M.depth env a →
    (∀ env' M' μ' a' w', EnvR μ' M.depth env' a' → a'.defers = a.defers → Okay base μ M w μ' M' w' → K env' M' → Q .normal a' w') → wpOps P ops Q L a w
  | [], hist, K, env, M, h, base, μ, a, w, hR, h0, he, hQ => hQ env M μ a w he rfl (Okay.refl hR) h
  | i :: L, hist, K, env, M, h, base, μ, a, w, hR, h0, he, hQ => by
    rw [wpOps_cons]
    unfold wpOp
    simp only [AS] at h
    cases ho : ops[i]? with
    | none =>
      simp only [ho] at h ⊢
      exact AS_text L hist K env M h base μ a w hR h0 he hQ
    | some o =>
      simp only [ho] at h ⊢
      cases hw : wantedA ops o env with
      | none => simp only [hw] at h
      | some b =>
        rw [wantedA_ok he hw]
        simp only [hw] at h
        cases b with
        | false =>
          simp only at h
          simp only [Bool.false_eq_true, if_false]
          exact AS_text L hist K _ M h base μ _ w hR h0 (EnvR_put he (by simp [VR, VRs, undef]) o.dst) (fun env' M' μ' a' w' h1 h2 h3 h4 => hQ env' M' μ' a' w' h1 (by rw [h2]; cases o.dst <;> rfl) h3 h4)
        | true =>
          simp only at h
          simp only [if_true]
          refine .inl ?_
          split at h
          · refine h base μ w a _ Q hR h0 (fun x _ => ev_ok he x) fun v cv M' μ' w' hv hok hpost => ?_
            refine AS_text L hist K _ M' hpost.2 base μ' _ w' hok.r (by rw [hok.d]; exact h0) (by rw [hok.d]; exact EnvR_put (VRs_ext hok.e (Nat.le_refl _) he) hv o.dst) (fun env' M'' μ'' a' w'' h1 h2 h3 h4 => hQ env' M'' μ'' a' w'' (by rw [← hok.d]; exact h1) (by rw [h2]; cases o.dst <;> rfl) (hok.trans h3) h4)
          · obtain ⟨v, hv, h⟩ := h
            refine hv.wp base μ w a _ Q hR h0 (fun x _ => ev_ok he x) fun v' cv M' μ' w' hv' hok hpost => ?_
            obtain ⟨rfl, rfl⟩ := hpost
            refine AS_text L _ K _ M' h base μ' _ w' hok.r h0 (EnvR_put (VRs_ext hok.e (Nat.le_refl _) he) hv' o.dst) (fun env' M'' μ'' a' w'' h1 h2 h3 h4 => hQ env' M'' μ'' a' w'' h1 (by rw [h2]; cases o.dst <;> rfl) (hok.trans h3) h4)

theorem AS_hist {P : Program} {hp : List Nat} {ops : Array Oper} {dr : Bool} {ls : List Nat} {K : List AV → Mem → Prop} : ∀ (L : List Nat) (h1 h2 : List (Nat × (Mem → Prop))) (env : List AV) (M : Mem),
    (∀ x, x ∈ h2 → x ∈ h1) → AS P hp ops dr ls L h1 K env M → AS P hp ops dr ls L h2 K env M
  | [], h1, h2, env, M, hs, h => h
  | i :: L, h1, h2, env, M, hs, h => by
    simp only [AS] at h ⊢
    cases ho : ops[i]? with
    | none => simp only [ho] at h ⊢; exact AS_hist L h1 h2 env M hs h
    | some o =>
      simp only [ho] at h ⊢
      cases hw : wantedA ops o env with
      | none => simp only [hw] at h
      | some b =>
        simp only [hw] at h ⊢
        cases b with
        | false => exact AS_hist L h1 h2 _ M hs h
        | true =>
          simp only at h ⊢
          split at h
          · rename_i hc
            rw [if_pos hc]
            exact h.mono fun v M' hp => ⟨fun x hx => hp.1 x (hs x hx), AS_hist L h1 h2 _ M' hs hp.2⟩
          · rename_i hc
            rw [if_neg hc]
            obtain ⟨v, hv, h⟩ := h
            refine ⟨v, hv, AS_hist L _ _ _ M (fun x hx => ?_) h⟩
            split at hx
            · rename_i hd
              simp only [List.mem_cons] at hx
              rw [if_pos hd]
              rcases hx with rfl | hx
              · simp
              · exact List.mem_cons_of_mem _ (hs x hx)
            · rename_i hd; rw [if_neg hd]; exact hs x hx

/-! ### an operation that is taken ahead of others -/
theorem ev_put {env : List AV} {dst : Option Tmp} {v : AV} {x : Operand} (h : ∀ d, dst = some d → x ≠ .tmp d) : ev (putA env dst v) x = ev env x := by
  cases dst with
  | none => rfl
  | some d =>
    cases x with
    | tmp t =>
      have hne : d ≠ t := fun e => h d rfl (e ▸ rfl)
      simp [ev, putA, List.getD, List.getElem?_set_ne hne]
    | _ => rfl
theorem putA_comm {env : List AV} {x y : Option Tmp} {v u : AV} (h : ∀ d, x = some d → y ≠ some d) : putA (putA env x v) y u = putA (putA env y u) x v := by
  cases x with
  | none => rfl
  | some d =>
    cases y with
    | none => rfl
    | some e =>
      have hne : d ≠ e := fun he => h d rfl (he ▸ rfl)
      simp [putA, List.set_comm _ _ hne]
theorem not_looks {ops : Array Oper} {o : Oper} {d : Tmp} (h : d ∉ o.looksAt ops) : (∀ x, x ∈ o.op.operands → x ≠ .tmp d) ∧ ∀ j b, o.guard = some (j, b) → (ops[j]?).bind (·.dst) ≠ some d := by
  unfold Oper.looksAt at h
  simp only [List.mem_append, not_or, List.mem_filterMap, not_exists, not_and] at h
  refine ⟨fun x hx e => ?_, fun j b hg e => ?_⟩
  · have := h.1 x (by simpa using hx)
    rw [e] at this; simp at this
  · have := h.2
    rw [hg] at this
    simp [e] at this
theorem ev_apart {ops : Array Oper} {o : Oper} {env : List AV} {dst : Option Tmp} {v : AV} (h : ∀ d, dst = some d → d ∉ o.looksAt ops) : ∀ x, x ∈ o.op.operands → ev (putA env dst v) x = ev env x :=
  fun x hx => ev_put fun d hd => (not_looks (h d hd)).1 x hx
theorem wantedA_apart {ops : Array Oper} {o : Oper} {env : List AV} {dst : Option Tmp} {v : AV} (h : ∀ d, dst = some d → d ∉ o.looksAt ops) : wantedA ops o (putA env dst v) = wantedA ops o env := by
  unfold wantedA
  split
  · rfl
  · rename_i j want hg
    split
    · rename_i t ht
      cases dst with
      | none => rfl
      | some d =>
        have hne : d ≠ t := fun e => (not_looks (h d rfl)).2 j want hg (by rw [ht, e])
        simp [putA, List.getElem?_set_ne hne]
    · rfl

/-- One operation now, the others behind it. -/
def StepA (P : Program) (hp : List Nat) (ops : Array Oper) (ls : List Nat) (i : Nat) (env : List AV) (M : Mem) (Post : AV → Mem → Prop) : Prop :=
  match ops[i]? with
  | none => False
  | some o =>
    match wantedA ops o env with
    | none => False
    | some false => Post (.tup []) M
    | some true => if ls.contains i = true then OpW P o env M Post else ∃ v, Qt P hp o env M v ∧ Post v M

theorem StepA.mono {P : Program} {hp : List Nat} {ops : Array Oper} {ls : List Nat} {i : Nat} {env : List AV} {M : Mem} {Post Post' : AV → Mem → Prop} (h : StepA P hp ops ls i env M Post) (hq : ∀ v M', Post v M' → Post' v M') : StepA P hp ops ls i env M Post' := by
  unfold StepA at *
  split
  · simp_all
  · rename_i o ho
    simp only [ho] at h
    split
    · simp_all
    · rename_i hw; simp only [hw] at h; exact hq _ _ h
    · rename_i hw; simp only [hw] at h
      split
      · rename_i hc; rw [if_pos hc] at h; exact h.mono hq
      · rename_i hc; rw [if_neg hc] at h
        obtain ⟨v, hv, h⟩ := h
        exact ⟨v, hv, hq _ _ h⟩

/-- Taking operation i ahead of quiet operations that it doesn't wait for. -/
theorem AS_take {P : Program} {hp : List Nat} {ops : Array Oper} {ls : List Nat} {K : List AV → Mem → Prop} {i : Nat} {o : Oper} (ho : ops[i]? = some o) : ∀ (L1 L2 : List Nat) (hist : List (Nat × (Mem → Prop))) (env : List AV) (M : Mem),
    (∀ q oq, q ∈ L1 → ops[q]? = some oq → ls.contains q = false ∧ oq.apart ops o = true ∧ ancB ops ops.size q i = false) → AS P hp ops true ls (L1 ++ i :: L2) hist K env M →
    StepA P hp ops ls i env M fun v M' => (∀ h, h ∈ hist → ancB ops ops.size h.1 i = false → ls.contains i = true → wantedA ops o env = some true → h.2 M') ∧ AS P hp ops true ls (L1 ++ L2) hist K (putA env o.dst v) M'
  | [], L2, hist, env, M, hq, h => by
    simp only [List.nil_append, AS, ho] at h
    simp only [StepA, ho]
    cases hw : wantedA ops o env with
    | none => simp only [hw] at h
    | some b =>
      simp only [hw] at h ⊢
      cases b with
      | false => exact ⟨fun _ _ _ _ hh => (by cases hh), h⟩
      | true =>
        simp only at h ⊢
        split at h
        · rename_i hc
          rw [if_pos hc]
          exact h.mono fun v M' hp => ⟨fun x hx ha _ _ => hp.1 x hx ha, hp.2⟩
        · rename_i hc
          rw [if_neg hc]
          obtain ⟨v, hv, h⟩ := h
          refine ⟨v, hv, fun x hx ha hl _ => absurd hl hc, AS_hist _ _ _ _ _ (fun x hx => ?_) h⟩
          split
          · exact List.mem_cons_of_mem _ hx
          · exact hx
  | q :: L1, L2, hist, env, M, hq, h => by
    simp only [List.cons_append, AS] at h
    cases hoq : ops[q]? with
    | none =>
      simp only [hoq] at h
      have ih := AS_take ho L1 L2 hist env M (fun q' oq' hq' => hq q' oq' (List.mem_cons_of_mem _ hq')) h
      refine ih.mono fun v M' hp => ⟨hp.1, ?_⟩
      simp only [List.cons_append, AS, hoq]
      exact hp.2
    | some oq =>
      simp only [hoq] at h
      obtain ⟨hql, hap, hanc⟩ := hq q oq (by simp) hoq
      obtain ⟨ap1, ap2, ap3⟩ := Oper.apart_spec hap
      have hq' : ∀ q' oq', q' ∈ L1 → ops[q']? = some oq' → ls.contains q' = false ∧ oq'.apart ops o = true ∧ ancB ops ops.size q' i = false := fun q' oq' hm => hq q' oq' (List.mem_cons_of_mem _ hm)
      cases hw : wantedA ops oq env with
      | none => simp only [hw] at h
      | some b =>
        simp only [hw] at h
        cases b with
        | false =>
          simp only at h
          have ih := AS_take ho L1 L2 hist _ M hq' h
          -- the step at the other environment
          have key : StepA P hp ops ls i env M fun v M' => (∀ h, h ∈ hist → ancB ops ops.size h.1 i = false → ls.contains i = true → wantedA ops o env = some true → h.2 M') ∧ AS P hp ops true ls (L1 ++ L2) hist K (putA (putA env oq.dst (.tup [])) o.dst v) M' := by
            unfold StepA at ih ⊢
            simp only [ho] at ih ⊢
            rw [wantedA_apart (v := .tup []) ap1] at ih
            cases hwi : wantedA ops o env with
            | none => simp only [hwi] at ih
            | some b =>
              simp only [hwi] at ih ⊢
              cases b with
              | false => exact ih
              | true =>
                simp only at ih ⊢
                split at ih
                · rename_i hc; rw [if_pos hc]
                  exact ih.congr fun x hx => (ev_apart ap1 x hx).symm
                · rename_i hc; rw [if_neg hc]
                  obtain ⟨v, hv, h⟩ := ih
                  exact ⟨v, hv.congr fun x hx => (ev_apart ap1 x hx).symm, h⟩
          refine key.mono fun v M' hp => ⟨hp.1, ?_⟩
          simp only [List.cons_append, AS, hoq]
          rw [wantedA_apart ap3, hw]
          simp only
          rw [putA_comm (fun d hd e => ap2 d e hd)]
          exact hp.2
        | true =>
          simp only [hql, Bool.false_eq_true, if_false, Bool.true_and] at h
          obtain ⟨vq, hvq, h⟩ := h
          have ih := AS_take ho L1 L2 _ _ M hq' h
          have key : StepA P hp ops ls i env M fun v M' => (∀ h, h ∈ (if (!pureOp oq.op) = true then (q, fun M' => Qt P hp oq env M' vq) :: hist else hist) → ancB ops ops.size h.1 i = false → ls.contains i = true → wantedA ops o env = some true → h.2 M') ∧
              AS P hp ops true ls (L1 ++ L2) (if (!pureOp oq.op) = true then (q, fun M' => Qt P hp oq env M' vq) :: hist else hist) K (putA (putA env oq.dst vq) o.dst v) M' := by
            unfold StepA at ih ⊢
            simp only [ho] at ih ⊢
            rw [wantedA_apart (v := vq) ap1] at ih
            cases hwi : wantedA ops o env with
            | none => simp only [hwi] at ih
            | some b =>
              simp only [hwi] at ih ⊢
              cases b with
              | false => exact ih
              | true =>
                simp only at ih ⊢
                split at ih
                · rename_i hc; rw [if_pos hc]
                  exact ih.congr fun x hx => (ev_apart ap1 x hx).symm
                · rename_i hc; rw [if_neg hc]
                  obtain ⟨v, hv, h⟩ := ih
                  exact ⟨v, hv.congr fun x hx => (ev_apart ap1 x hx).symm, h⟩
          have fin : ∀ v M', Qt P hp oq env M' vq → AS P hp ops true ls (L1 ++ L2) (if (!pureOp oq.op) = true then (q, fun M' => Qt P hp oq env M' vq) :: hist else hist) K (putA (putA env oq.dst vq) o.dst v) M' →
              AS P hp ops true ls (q :: L1 ++ L2) hist K (putA env o.dst v) M' := by
            intro v M' hv' has
            simp only [List.cons_append, AS, hoq]
            rw [wantedA_apart ap3, hw]
            simp only [hql, Bool.false_eq_true, if_false, Bool.true_and]
            have hc : ∀ M'', Qt P hp oq (putA env o.dst v) M'' vq = Qt P hp oq env M'' vq := fun M'' => Qt_congr fun x hx => ev_apart ap3 x hx
            refine ⟨vq, by rw [hc]; exact hv', ?_⟩
            have hf : (fun M' => Qt P hp oq (putA env o.dst v) M' vq) = (fun M' => Qt P hp oq env M' vq) := by funext M''; rw [hc]
            rw [hf, putA_comm (fun d hd e => ap2 d e hd)]
            exact has
          unfold StepA at key ⊢
          simp only [ho] at key ⊢
          cases hwi : wantedA ops o env with
          | none => simp only [hwi] at key
          | some b =>
            simp only [hwi] at key ⊢
            cases b with
            | false => exact ⟨fun _ _ _ _ hh => (by cases hh), fin _ M hvq key.2⟩
            | true =>
              simp only at key ⊢
              split at key
              · rename_i hc; rw [if_pos hc]
                refine key.mono fun v M' hp => ⟨fun x hx ha hl hh => hp.1 x (by split; exact List.mem_cons_of_mem _ hx; exact hx) ha hl hh, fin v M' ?_ hp.2⟩
                cases hpu : pureOp oq.op with
                | true => exact hvq.pure hpu
                | false => exact hp.1 (q, fun M' => Qt P _ oq env M' vq) (by simp [hpu]) hanc hc trivial
              · rename_i hc; rw [if_neg hc]
                obtain ⟨v, hv, hp⟩ := key
                exact ⟨v, hv, fun x hx ha hl hh => absurd hl hc, fin v M hvq hp.2⟩

/-! ### whatever order the tape gives -/
/-- The order of the prover's choice: each operation's forerunners stand ahead of it; what stands ahead of another one is one that it waits for, or is quiet and apart from it. -/
def pairOK (ops : Array Oper) (ls : List Nat) (i j : Nat) : Bool :=
  ancB ops ops.size i j || (!ls.contains i && match ops[i]?, ops[j]? with | some x, some y => x.apart ops y | _, _ => false)
def orderOK (ops : Array Oper) (ls : List Nat) : List Nat → Bool
  | [] => true
  | i :: L => (L.all fun j => pairOK ops ls i j) && (L.all fun j => !ancB ops ops.size j i) && !ancB ops ops.size i i && !L.contains i && orderOK ops ls L
def allIn (ops : Array Oper) (L : List Nat) : Bool :=
  decide (L.length ≤ ops.size) && (L.all fun i => decide (i < ops.size)) && ((List.range ops.size).all fun i => L.contains i) && ops.toList.all fun o => o.after.all fun e => !Region.binds .any e || decide (e.on < ops.size)

theorem orderOK_split {ops : Array Oper} {ls : List Nat} {i : Nat} : ∀ (L1 L2 : List Nat), orderOK ops ls (L1 ++ i :: L2) = true → orderOK ops ls (L1 ++ L2) = true ∧ (∀ q, q ∈ L1 → pairOK ops ls q i = true) ∧ i ∉ L1 ++ L2
  | [], L2, h => by
    simp only [List.nil_append, orderOK, Bool.and_eq_true] at h
    exact ⟨h.2, fun q hq => by simp at hq, by simpa using h.1.2⟩
  | q :: L1, L2, h => by
    simp only [List.cons_append, orderOK, Bool.and_eq_true] at h ⊢
    obtain ⟨⟨⟨⟨h1, h2⟩, h3⟩, h4⟩, h5⟩ := h
    obtain ⟨i1, i2, i3⟩ := orderOK_split L1 L2 h5
    rw [List.all_append, Bool.and_eq_true, List.all_cons, Bool.and_eq_true] at h1 h2
    refine ⟨⟨⟨⟨⟨?_, ?_⟩, h3⟩, ?_⟩, i1⟩, fun q' hq' => ?_, ?_⟩
    · rw [List.all_append, Bool.and_eq_true]; exact ⟨h1.1, h1.2.2⟩
    · rw [List.all_append, Bool.and_eq_true]; exact ⟨h2.1, h2.2.2⟩
    · simp only [List.contains_eq_mem, List.mem_append, List.mem_cons, not_or, Bool.not_eq_true', decide_eq_false_iff_not] at h4 ⊢
      exact ⟨h4.1, h4.2.2⟩
    · simp only [List.mem_cons] at hq'
      rcases hq' with rfl | hq'
      · exact h1.2.1
      · exact i2 q' hq'
    · simp only [List.contains_eq_mem, List.mem_append, List.mem_cons, not_or, Bool.not_eq_true', decide_eq_false_iff_not] at h4
      simp only [List.mem_cons, not_or]
      exact ⟨fun e => h4.2.1 e.symm, i3⟩

theorem anc_listed {ops : Array Oper} {listed : Array Bool} {i : Nat} (hdc : ∀ k o, ops[k]? = some o → listed.getD k false = true → ∀ e, e ∈ o.after → Region.binds .any e = true → listed.getD e.on false = true) :
    ∀ (n j : Nat) (o : Oper), ops[j]? = some o → (∀ e, e ∈ o.after → Region.binds .any e = true → listed.getD e.on false = true) → ancB ops n i j = true → listed.getD i false = true
  | 0, j, o, ho, hr, h => by simp [ancB] at h
  | n + 1, j, o, ho, hr, h => by
    simp only [ancB, ho, Array.any_eq_true', Bool.and_eq_true, Bool.or_eq_true, beq_iff_eq] at h
    obtain ⟨e, he, hb, h⟩ := h
    have hl := hr e he hb
    rcases h with rfl | h
    · exact hl
    · cases ho' : ops[e.on]? with
      | none => cases n <;> simp [ancB, ho'] at h
      | some o' => exact anc_listed hdc n e.on o' ho' (hdc e.on o' ho' hl) h

theorem getD_bool {l : Array Bool} {i : Nat} (h : i < l.size) : l.getD i true = l.getD i false := by simp [Array.getD, h]

theorem AS_any {P : Program} {hp : List Nat} {ops : Array Oper} {ls : List Nat} {Q : Exit → Act → World → Prop} {K : List AV → Mem → Prop} (hedge : ops.toList.all (fun o => o.after.all fun e => !Region.binds .any e || decide (e.on < ops.size)) = true) :
    ∀ (fuel : Nat) (L : List Nat) (listed : Array Bool) (env : List AV) (M : Mem), L.length ≤ fuel → listed.size = ops.size → (∀ i, i ∈ L ↔ i < ops.size ∧ listed.getD i false = false) → orderOK ops ls L = true →
    (∀ k o, ops[k]? = some o → listed.getD k false = true → ∀ e, e ∈ o.after → Region.binds .any e = true → listed.getD e.on false = true) →
    AS P hp ops true ls L [] K env M → ∀ (base : Nat) (μ : Mu) (a : Act) (w : World), R base μ M w → 0 < M.depth → EnvR μ M.depth env a →
    (∀ env' M' μ' a' w', EnvR μ' M.depth env' a' → a'.defers = a.defers → Okay base μ M w μ' M' w' → K env' M' → Q .normal a' w') → wpAny P .any ops Q fuel listed a w := by
  intro fuel
  induction fuel with
  | zero =>
    intro L listed env M hfu hsz hL hok hdc h base μ a w hR h0 he hQ
    have hnil : L = [] := List.eq_nil_of_length_eq_zero (by omega)
    subst hnil
    refine ⟨?_, hQ env M μ a w he rfl (Okay.refl hR) h⟩
    unfold Region.ready
    rw [List.filter_eq_nil_iff]
    intro i hi
    simp only [List.mem_range] at hi
    have := (hL i).2
    simp only [Bool.and_eq_true, Bool.not_eq_true', not_and]
    intro hun
    rw [getD_bool (by omega)] at hun
    exact absurd (this ⟨hi, hun⟩) (by simp)
  | succ fuel ih =>
    intro L listed env M hfu hsz hL hok hdc h base μ a w hR h0 he hQ
    refine ⟨fun hnil => ?_, fun i hi => ?_⟩
    · -- nothing may come up: all have come up
      cases L with
      | nil => exact hQ env M μ a w he rfl (Okay.refl hR) h
      | cons j L =>
        exfalso
        obtain ⟨hj1, hj2⟩ := (hL j).1 (by simp)
        simp only [orderOK, Bool.and_eq_true] at hok
        obtain ⟨⟨⟨⟨_, h2⟩, h3⟩, _⟩, _⟩ := hok
        unfold Region.ready at hnil
        rw [List.filter_eq_nil_iff] at hnil
        refine hnil j (by simpa using hj1) ?_
        simp only [Bool.and_eq_true, Bool.not_eq_true']
        refine ⟨by rw [getD_bool (by omega)]; exact hj2, ?_⟩
        have ho : ops[j]? = some ops[j] := by simp [hj1]
        rw [ho]
        simp only [Option.map_some, Option.getD_some, Array.all_eq_true', Bool.or_eq_true, Bool.not_eq_true']
        intro e hee
        cases hb : Region.binds .any e with
        | false => exact .inl rfl
        | true =>
          right
          have hlt : e.on < ops.size := by
            rw [List.all_eq_true] at hedge
            have := hedge ops[j] (by simp)
            rw [Array.all_eq_true'] at this
            have := this e hee
            simpa [hb] using this
          cases hl : listed.getD e.on false with
          | true => rfl
          | false =>
            exfalso
            have hmem := (hL e.on).2 ⟨hlt, hl⟩
            have hanc : ancB ops ops.size e.on j = true := by
              obtain ⟨n, hn⟩ : ∃ n, ops.size = n + 1 := ⟨ops.size - 1, by omega⟩
              rw [hn]
              simp only [ancB, ho, Array.any_eq_true', Bool.and_eq_true, Bool.or_eq_true, beq_iff_eq]
              exact ⟨e, hee, hb, .inl rfl⟩
            simp only [List.mem_cons] at hmem
            rcases hmem with heq | hmem
            · rw [heq] at hanc; rw [hanc] at h3; simp at h3
            · rw [List.all_eq_true] at h2
              have := h2 e.on hmem
              rw [hanc] at this; simp at this
    · -- operation i comes up
      obtain ⟨hun, o, ho, hall⟩ := mem_ready.1 hi
      have hlt : i < ops.size := by
        rcases Nat.lt_or_ge i ops.size with h | h
        · exact h
        · simp [Array.getElem?_eq_none h] at ho
      have hun' : listed.getD i false = false := by rw [← getD_bool (by omega)]; exact hun
      have himem := (hL i).2 ⟨hlt, hun'⟩
      obtain ⟨L1, L2, rfl⟩ := List.append_of_mem himem
      obtain ⟨o1, o2, o3⟩ := orderOK_split L1 L2 hok
      have hpred : ∀ e, e ∈ o.after → Region.binds .any e = true → listed.getD e.on false = true := by
        intro e hee hb
        exact hall e hee hb
      have hquiet : ∀ q oq, q ∈ L1 → ops[q]? = some oq → ls.contains q = false ∧ oq.apart ops o = true ∧ ancB ops ops.size q i = false := by
        intro q oq hq hoq
        have hp := o2 q hq
        have hnanc : ancB ops ops.size q i = false := by
          cases hc : ancB ops ops.size q i with
          | false => rfl
          | true =>
            have h1 := anc_listed hdc ops.size i o ho hpred hc
            have h2 := ((hL q).1 (by simp [hq])).2
            rw [h1] at h2; cases h2
        unfold pairOK at hp
        rw [hnanc, Bool.false_or, hoq, ho, Bool.and_eq_true] at hp
        exact ⟨by simpa using hp.1, hp.2, hnanc⟩
      have hst := AS_take ho L1 L2 [] env M hquiet h
      have hset : ∀ k, (listed.setIfInBounds i true).getD k false = if k = i then true else listed.getD k false := by
        intro k
        simp only [Array.getD_eq_getD_getElem?, Array.getElem?_setIfInBounds]
        by_cases hk : i = k
        · subst hk; simp [hsz, hlt]
        · simp [hk, Ne.symm hk]
      have hnext : ∀ (env' : List AV) (M' : Mem) (μ' : Mu) (a' : Act) (w' : World), AS P hp ops true ls (L1 ++ L2) [] K env' M' → Okay base μ M w μ' M' w' → EnvR μ' M.depth env' a' → a'.defers = a.defers → wpAny P .any ops Q fuel (listed.setIfInBounds i true) a' w' := by
        intro env' M' μ' a' w' has hokk hee hdf
        refine ih (L1 ++ L2) (listed.setIfInBounds i true) env' M' (by simp at hfu ⊢; omega) (by simp [hsz]) (fun k => ?_) o1 (fun k ok hk hl e hke hb => ?_) has base μ' a' w' hokk.r (by rw [hokk.d]; exact h0) (by rw [hokk.d]; exact hee)
          (fun env2 M2 μ2 a2 w2 g1 g2 g3 g4 => hQ env2 M2 μ2 a2 w2 (by rw [← hokk.d]; exact g1) (by rw [g2, hdf]) (hokk.trans g3) g4)
        · rw [hset]
          have := hL k
          simp only [List.mem_append, List.mem_cons] at this ⊢
          by_cases hk : k = i
          · subst hk
            simp only [if_true]
            simp only [List.mem_append, not_or] at o3
            exact ⟨fun hh => absurd hh (by simpa using o3), fun hh => by cases hh.2⟩
          · rw [if_neg hk]
            rw [← this]
            simp [hk]
        · rw [hset] at hl ⊢
          by_cases hk' : k = i
          · subst hk'
            rw [ho] at hk; cases hk
            have := hpred e hke hb
            split
            · rfl
            · exact this
          · rw [if_neg hk'] at hl
            have := hdc k ok hk hl e hke hb
            split
            · rfl
            · exact this
      unfold wpOp
      simp only [ho]
      unfold StepA at hst
      simp only [ho] at hst
      cases hw : wantedA ops o env with
      | none => simp only [hw] at hst
      | some b =>
        rw [wantedA_ok he hw]
        simp only [hw] at hst
        cases b with
        | false =>
          simp only at hst
          simp only [Bool.false_eq_true, if_false]
          exact hnext _ M μ _ w hst.2 (Okay.refl hR) (EnvR_put he (by simp [VR, VRs, undef]) o.dst) (by cases o.dst <;> rfl)
        | true =>
          simp only at hst
          simp only [if_true]
          refine .inl ?_
          split at hst
          · refine hst base μ w a _ Q hR h0 (fun x _ => ev_ok he x) fun v cv M' μ' w' hv hokk hpost => ?_
            exact hnext _ M' μ' _ w' hpost.2 hokk (EnvR_put (VRs_ext hokk.e (Nat.le_refl _) he) hv o.dst) (by cases o.dst <;> rfl)
          · obtain ⟨v, hv, hst⟩ := hst
            refine hv.wp base μ w a _ Q hR h0 (fun x _ => ev_ok he x) fun v' cv M' μ' w' hv' hokk hpost => ?_
            obtain ⟨rfl, rfl⟩ := hpost
            exact hnext _ M' μ' _ w' hst.2 hokk (EnvR_put (VRs_ext hokk.e (Nat.le_refl _) he) hv' o.dst) (by cases o.dst <;> rfl)

end Go.Abs
