/- Code and calls. -/
import Derived.Test.YtlpcbfndjffpfaaAbs14
set_option linter.unusedVariables false
set_option linter.unnecessarySimpa false
set_option linter.unusedSimpArgs false
namespace Go.Abs
open Go.RowKit (Below)

inductive Ex where
  | norm
  | exit (id : Nat)
  | goto (l : Nat)
  | ret
  deriving DecidableEq

def exOf : Exit → Option Ex
  | .normal => some .norm
  | .exit id => some (.exit id)
  | .goto l => some (.goto l)
  | .ret => some .ret
  | _ => none

def Res (base : Nat) (μ : Mu) (M : Mem) (w : World) (a : Act) (Q : List AV → Mem → Prop) (a' : Act) (w' : World) : Prop :=
  ∃ env' M' μ', EnvR μ' M.depth env' a' ∧ a'.defers = a.defers ∧ Okay base μ M w μ' M' w' ∧ Q env' M'
def post (Q : Ex → List AV → Mem → Prop) (base : Nat) (μ : Mu) (M : Mem) (w : World) (a : Act) (e : Exit) (a' : Act) (w' : World) : Prop :=
  match exOf e with
  | some x => Res base μ M w a (Q x) a' w'
  | none => False

theorem post_trans {Q : Ex → List AV → Mem → Prop} {base : Nat} {μ μ1 : Mu} {M M1 : Mem} {w w1 : World} {a a1 : Act} (hok : Okay base μ M w μ1 M1 w1) (hd : a1.defers = a.defers) {e : Exit} {a' : Act} {w' : World} (h : post Q base μ1 M1 w1 a1 e a' w') : post Q base μ M w a e a' w' := by
  unfold post at *
  split
  · rename_i x hx
    rw [hx] at h
    obtain ⟨env', M', μ', h1, h2, h3, h4⟩ := h
    exact ⟨env', M', μ', by rw [← hok.d]; exact h1, by rw [h2, hd], hok.trans h3, h4⟩
  · rename_i hx; rw [hx] at h; exact h

/-- The weakest precondition over abstract states. -/
def W (P : Program) (c : Code) (Q : Ex → List AV → Mem → Prop) (env : List AV) (M : Mem) : Prop :=
  ∀ base μ w a, R base μ M w → 0 < M.depth → EnvR μ M.depth env a → c.wp P (post Q base μ M w a) a w

section
variable {P : Program} {Q Q' : Ex → List AV → Mem → Prop} {env : List AV} {M : Mem}

theorem Res.mono {base : Nat} {μ : Mu} {w : World} {a : Act} {q q' : List AV → Mem → Prop} {a' : Act} {w' : World} (h : Res base μ M w a q a' w') (hq : ∀ env M, q env M → q' env M) : Res base μ M w a q' a' w' := by
  obtain ⟨env', M', μ', h1, h2, h3, h4⟩ := h
  exact ⟨env', M', μ', h1, h2, h3, hq _ _ h4⟩

theorem W_mono {c : Code} (h : W P c Q env M) (hq : ∀ e env M, Q e env M → Q' e env M) : W P c Q' env M := fun base μ w a hR h0 he =>
  wp_mono (h base μ w a hR h0 he) fun e a' w' hp => by
    unfold post at *
    split
    · rename_i x hx; rw [hx] at hp; exact hp.mono (hq x)
    · rename_i hx; rw [hx] at hp; exact hp

theorem here {base : Nat} {μ : Mu} {w : World} {a : Act} (hR : R base μ M w) (he : EnvR μ M.depth env a) {q : List AV → Mem → Prop} (h : q env M) : Res base μ M w a q a w := ⟨env, M, μ, he, rfl, Okay.refl hR, h⟩

theorem W_skip (h : Q .norm env M) : W P .skip Q env M := fun base μ w a hR h0 he => wp_skip (here hR he h)
theorem W_label {l : Nat} (h : Q .norm env M) : W P (.label l) Q env M := fun base μ w a hR h0 he => wp_label (here hR he h)
theorem W_exit {id : Nat} (h : Q (.exit id) env M) : W P (.exit id) Q env M := fun base μ w a hR h0 he => wp_exit (here hR he h)
theorem W_goto {l : Nat} (h : Q (.goto l) env M) : W P (.goto l) Q env M := fun base μ w a hR h0 he => wp_goto (here hR he h)
theorem W_ret (h : Q .ret env M) : W P .ret Q env M := fun base μ w a hR h0 he => wp_ret (here hR he h)

def Ex.then (next : List AV → Mem → Prop) (Q : Ex → List AV → Mem → Prop) : Ex → List AV → Mem → Prop
  | .norm => next
  | e => Q e

theorem W_seq {x y : Code} (h : W P x (Ex.then (W P y Q) Q) env M) : W P (.seq x y) Q env M := fun base μ w a hR h0 he =>
  wp_seq (wp_mono (h base μ w a hR h0 he) fun e a' w' hp => by
    cases e with
    | normal =>
      obtain ⟨env', M', μ', h1, h2, h3, h4⟩ := hp
      exact wp_mono (h4 base μ' w' a' h3.r (by rw [h3.d]; exact h0) (by rw [h3.d]; exact h1)) fun e a2 w2 hp2 => post_trans h3 h2 hp2
    | exit id => exact hp
    | goto l => exact hp
    | ret => exact hp
    | panic c => exact hp
    | outgrown => exact hp)

theorem W_cond {c : Operand} {x y : Code} {b : Bool} (hc : ev env c = .bool b) (h : W P (if b = true then x else y) Q env M) : W P (.cond c x y) Q env M := fun base μ w a hR h0 he => by
  have hv := ev_ok he c
  rw [hc] at hv
  simp only [VR] at hv
  exact wp_cond hv (h base μ w a hR h0 he)
theorem W_cond_if {c : Operand} {x y : Code} {b : Bool} (hc : ev env c = .bool b) (ht : b = true → W P x Q env M) (hf : b = false → W P y Q env M) : W P (.cond c x y) Q env M := by
  cases b
  · exact W_cond hc (hf rfl)
  · exact W_cond hc (ht rfl)

def Ex.inBlock (id : Nat) (Q : Ex → List AV → Mem → Prop) : Ex → List AV → Mem → Prop
  | .exit id' => if id' = id then Q .norm else Q (.exit id')
  | e => Q e
theorem W_block {id : Nat} {c : Code} (h : W P c (Ex.inBlock id Q) env M) : W P (.block id c) Q env M := fun base μ w a hR h0 he =>
  wp_block (wp_mono (h base μ w a hR h0 he) fun e a' w' hp => by
    cases e with
    | exit id' =>
      unfold post at hp
      simp only [exOf, Ex.inBlock] at hp
      simp only [Exit.inBlock]
      split
      · rename_i hi; rw [if_pos hi] at hp; exact hp
      · rename_i hi; rw [if_neg hi] at hp; exact hp
    | normal => exact hp
    | goto l => exact hp
    | ret => exact hp
    | panic c => exact hp
    | outgrown => exact hp)

/-! ### loops -/
inductive LW (P : Program) (c : Code) (Q : Exit → Act → World → Prop) : Act → World → Prop
  | mk (a : Act) (w : World) (f : Frame → List Item → List Frame → Exit × Act × World) (hq : ∀ b k cs, (f b k cs).1 ≠ .normal → Q (f b k cs).1 (f b k cs).2.1 (f b k cs).2.2)
      (hn : ∀ b k cs, (f b k cs).1 = .normal → LW P c Q (f b k cs).2.1 (f b k cs).2.2)
      (ha : ∀ b k cs, Arrives P (lone (b.at a (.code c :: k)) cs w) b k cs (f b k cs).1 (f b k cs).2.1 (f b k cs).2.2) : LW P c Q a w

theorem LW_of_wp {c : Code} {Q : Exit → Act → World → Prop} {a : Act} {w : World} (h : c.wp P (Exit.then (LW P c Q) Q) a w) : LW P c Q a w := by
  have h' : ∀ b k cs, ∃ r : Exit × Act × World, Exit.then (LW P c Q) Q r.1 r.2.1 r.2.2 ∧ Arrives P (lone (b.at a (.code c :: k)) cs w) b k cs r.1 r.2.1 r.2.2 :=
    fun b k cs => let ⟨e, a', w', q, r⟩ := h b k cs; ⟨(e, a', w'), q, r⟩
  refine .mk a w (fun b k cs => Classical.choose (h' b k cs)) (fun b k cs hn => ?_) (fun b k cs hn => ?_) (fun b k cs => (Classical.choose_spec (h' b k cs)).2)
  · have := (Classical.choose_spec (h' b k cs)).1
    generalize Classical.choose (h' b k cs) = r at *
    obtain ⟨e, a', w'⟩ := r
    cases e <;> first | exact absurd rfl hn | exact this
  · have := (Classical.choose_spec (h' b k cs)).1
    generalize Classical.choose (h' b k cs) = r at *
    obtain ⟨e, a', w'⟩ := r
    simp only at hn
    subst hn
    exact this

theorem wp_loop_LW {c : Code} {Q : Exit → Act → World → Prop} {a : Act} {w : World} (h : LW P c Q a w) : (Code.loop c).wp P Q a w := by
  intro b k cs
  have key : ∃ e a' w', Q e a' w' ∧ Arrives P (lone (b.at a (.code c :: .inLoop c :: k)) cs w) b k cs e a' w' := by
    induction h with
    | mk a w f hq hn ha ih =>
      have harr := ha b (.inLoop c :: k) cs
      have hq' := hq b (.inLoop c :: k) cs
      have ih' := ih b (.inLoop c :: k) cs
      generalize f b (.inLoop c :: k) cs = r at *
      obtain ⟨e, a₁, w₁⟩ := r
      cases e with
      | normal =>
        obtain ⟨e₂, a₂, w₂, hq₂, harr₂⟩ := ih' rfl
        exact ⟨e₂, a₂, w₂, hq₂, .of_steps (Steps.trans harr (.one step_inLoop)) harr₂⟩
      | exit id => exact ⟨_, a₁, w₁, hq' (by simp), .pass (x := .inLoop c) rfl (fun _ _ => .inl (by simp)) harr⟩
      | goto l => exact ⟨_, a₁, w₁, hq' (by simp), .pass (x := .inLoop c) rfl (fun _ _ => .inl (by simp)) harr⟩
      | ret => exact ⟨_, a₁, w₁, hq' (by simp), .pass (x := .inLoop c) rfl (fun _ _ => .inl (by simp)) harr⟩
      | panic ch => exact ⟨_, a₁, w₁, hq' (by simp), .pass (x := .inLoop c) rfl (fun _ _ => .inl (by simp)) harr⟩
      | outgrown => exact ⟨_, a₁, w₁, hq' (by simp), .pass (x := .inLoop c) rfl (fun _ _ => .inl (by simp)) harr⟩
  obtain ⟨e, a', w', hq, harr⟩ := key
  exact ⟨e, a', w', hq, .of_steps (.one step_loop) harr⟩

theorem LW.mono {c : Code} {Q Q' : Exit → Act → World → Prop} {a : Act} {w : World} (h : LW P c Q a w) (hq : ∀ e a w, Q e a w → Q' e a w) : LW P c Q' a w := by
  induction h with
  | mk a w f h1 h2 h3 ih => exact .mk a w f (fun b k cs hn => hq _ _ _ (h1 b k cs hn)) ih h3

/-- At the head of a loop's round. -/
def L (P : Program) (c : Code) (Q : Ex → List AV → Mem → Prop) (env : List AV) (M : Mem) : Prop :=
  ∀ base μ w a, R base μ M w → 0 < M.depth → EnvR μ M.depth env a → LW P c (post Q base μ M w a) a w
theorem W_loop {c : Code} (h : L P c Q env M) : W P (.loop c) Q env M := fun base μ w a hR h0 he => wp_loop_LW (h base μ w a hR h0 he)
theorem L_step {c : Code} (h : W P c (Ex.then (L P c Q) Q) env M) : L P c Q env M := fun base μ w a hR h0 he =>
  LW_of_wp (wp_mono (h base μ w a hR h0 he) fun e a' w' hp => by
    cases e with
    | normal =>
      obtain ⟨env', M', μ', h1, h2, h3, h4⟩ := hp
      exact (h4 base μ' w' a' h3.r (by rw [h3.d]; exact h0) (by rw [h3.d]; exact h1)).mono fun e a2 w2 hp2 => post_trans h3 h2 hp2
    | exit id => exact hp
    | goto l => exact hp
    | ret => exact hp
    | panic c => exact hp
    | outgrown => exact hp)

/-! ### regions -/
theorem W_region {hp : List Nat} {id : Nat} {ops : Array Oper} (h : AS P hp ops false (List.range ops.size) (List.range ops.size) [] (Q .norm) env M) : W P (.region id ops false) Q env M := fun base μ w a hR h0 he =>
  wp_region (AS_text _ _ _ _ _ h base μ a w hR h0 he fun env' M' μ' a' w' h1 h2 h3 h4 => ⟨env', M', μ', h1, h2, h3, h4⟩)

theorem W_region_draw {hp : List Nat} {id : Nat} {ops : Array Oper} {ls L : List Nat} (hm : P.follows .mixedOrders = true) (hin : allIn ops L = true) (hok : orderOK ops ls L = true) (h : AS P hp ops true ls L [] (Q .norm) env M) :
    W P (.region id ops true) Q env M := fun base μ w a hR h0 he => by
  unfold allIn at hin
  simp only [Bool.and_eq_true] at hin
  obtain ⟨⟨⟨hi0, hi1⟩, hi2⟩, hi3⟩ := hin
  rw [List.all_eq_true] at hi1 hi2
  have hmem : ∀ i, i ∈ L ↔ i < ops.size := fun i => ⟨fun h => by simpa using hi1 i h, fun h => by simpa using hi2 i (by simpa using h)⟩
  have hlen : L.length ≤ ops.size := by simpa using hi0
  have hR' : R base μ M { w with drawn := w.drawn + 1 } := hR.congr rfl
  have hrep : ∀ i, (Array.replicate ops.size false).getD i false = false := by
    intro i
    simp only [Array.getD_eq_getD_getElem?, Array.getElem?_replicate]
    split <;> rfl
  refine wp_region_any hm (AS_any hi3 ops.size L (Array.replicate ops.size false) env M hlen (by simp) (fun i => by rw [hmem, hrep]; simp) hok (fun k o hk hl => by rw [hrep] at hl; cases hl) h base μ a { w with drawn := w.drawn + 1 } hR' h0 he ?_)
  intro env' M' μ' a' w' h1 h2 h3 h4
  exact ⟨env', M', μ', h1, h2, ⟨h3.r, (Below.drew (Below.refl _ _)).trans h3.b, h3.e, h3.d⟩, h4⟩

/-! ### calls -/
/-- A function's contract. -/
def AC (P : Program) (f : FuncId) (args : List AV) (M : Mem) (Post : AV → Mem → Prop) : Prop :=
  ∀ base μ w (cargs : Array Value), R base μ M w → VRs μ M.depth args cargs.toList → Calls P f cargs w fun e w' => ∃ v cv M' μ', e = .returned cv ∧ VR μ' 0 v cv ∧ Okay base μ M w μ' M' w' ∧ Post v M'

theorem AC.mono {f : FuncId} {args : List AV} {Post Post' : AV → Mem → Prop} (h : AC P f args M Post) (hq : ∀ v M', Post v M' → Post' v M') : AC P f args M Post' := fun base μ w cargs hR hv =>
  (h base μ w cargs hR hv).mono fun e w' ⟨v, cv, M', μ', h1, h2, h3, h4⟩ => ⟨v, cv, M', μ', h1, h2, h3, hq _ _ h4⟩

def resT : List ResultVar → Option (List Nat)
  | [] => some []
  | .tmp t :: rs => (resT rs).map (t :: ·)
  | _ => none
def resA (ts : List Nat) (env : List AV) : AV :=
  match ts with
  | [t] => env.getD t .undef
  | ts => .tup (ts.map fun t => env.getD t .undef)

theorem run_results {fn : Func} {ts : List Nat} (h : resT fn.results.toList = some ts) (tmps : Array Value) (w : World) :
    (results fn tmps).run P w = .ok (if h : ((ts.map fun t => tmps.getD t undef).toArray).size = 1 then ((ts.map fun t => tmps.getD t undef).toArray)[0] else .tuple (ts.map fun t => tmps.getD t undef).toArray) w := by
  have hm : ∀ F : ResultVar → Sem Value, (∀ t, F (.tmp t) = pure (tmps.getD t undef)) → ∀ (rs : List ResultVar) (ts : List Nat), resT rs = some ts → (rs.mapM F).run P w = .ok (ts.map fun t => tmps.getD t undef) w := by
    intro F hF rs
    induction rs with
    | nil => intro ts h; simp [resT] at h; subst h; simp
    | cons r rs ih =>
      intro ts h
      cases r with
      | tmp t =>
        simp only [resT, Option.map_eq_some_iff] at h
        obtain ⟨ts', h1, rfl⟩ := h
        have := ih ts' h1
        simp only [List.mapM_cons, Sem.run_bind, hF, Sem.run_pure, Result.andThen_ok, this, List.map_cons]
      | cell a t => simp [resT] at h
  simp only [results, Sem.run_bind]
  rw [Array.mapM_eq_mapM_toList]
  simp only [Sem.run_map]
  rw [hm _ (fun t => rfl) _ _ h]
  simp only [Result.andThen_ok, Sem.run_pure]

theorem AC_of_W {f : FuncId} {fn : Func} {c : Code} {ts : List Nat} {args : List AV} {Post : AV → Mem → Prop} (hf : P.funcs[f]? = some fn) (hb : fn.body = some c) (hr : resT fn.results.toList = some ts)
    (h : W P c (fun e env' M' => (e = .norm ∨ e = .ret) ∧ (resA ts env').lev0 = true ∧ Post (resA ts env') M'.leave) (args ++ List.replicate (fn.ntmps - args.length) (.tup [])) M.enter) : AC P f args M Post := by
  intro base μ w cargs hR hv
  have hl := VRs_length hv
  have hlen : cargs.size = args.length := by simpa using hl
  have hd : M.enter.depth = M.depth + 1 := Mem.depth_enter
  refine calls_of_wp hf hb ?_
  have henv : EnvR μ M.enter.depth (args ++ List.replicate (fn.ntmps - args.length) (.tup [])) { tmps := cargs ++ Array.replicate (fn.ntmps - cargs.size) undef, defers := [] } := by
    unfold EnvR
    simp only [Array.toList_append, Array.toList_replicate]
    rw [hlen, hd]
    exact VRs_append (VRs_lim (by omega) hv) (VRs_replicate (by simp [VR, VRs, undef]) _)
  refine wp_mono (h base μ w _ hR.enter (by rw [hd]; omega) henv) fun e a' w' hp => ?_
  have fin : ∀ env' M' μ', EnvR μ' M.enter.depth env' a' → a'.defers = [] → Okay base μ M.enter w μ' M' w' → (resA ts env').lev0 = true → Post (resA ts env') M'.leave →
      a'.defers = [] ∧ ∃ v, (results fn a'.tmps).run P w' = .ok v w' ∧ ∃ v' cv M'' μ'', Ending.returned v = .returned cv ∧ VR μ'' 0 v' cv ∧ Okay base μ M w μ'' M'' w' ∧ Post v' M'' := by
    intro env' M' μ' h1 h2 h3 h4 h5
    refine ⟨h2, _, run_results hr a'.tmps w', resA ts env', _, M'.leave, μ'.cut M'.depth, rfl, ?_, ?_, h5⟩
    · have hget : ∀ t, VR μ' M.enter.depth (env'.getD t .undef) (a'.tmps.getD t undef) := fun t => ev_ok h1 (.tmp t)
      have hall : ∀ ts : List Nat, VRs μ' M.enter.depth (ts.map fun t => env'.getD t .undef) (ts.map fun t => a'.tmps.getD t undef) := by
        intro ts
        induction ts with
        | nil => exact VRs_nil
        | cons t ts ih => exact VRs_cons (hget t) ih
      have hvr : VR μ' M.enter.depth (resA ts env') (if h : ((ts.map fun t => a'.tmps.getD t undef).toArray).size = 1 then ((ts.map fun t => a'.tmps.getD t undef).toArray)[0] else .tuple (ts.map fun t => a'.tmps.getD t undef).toArray) := by
        cases ts with
        | nil => simp [resA, VR, VRs]
        | cons t ts =>
          cases ts with
          | nil => simpa [resA] using hget t
          | cons t2 ts =>
            simp only [resA, VR]
            rw [dif_neg (by simp)]
            exact ⟨_, rfl, by simpa using hall (t :: t2 :: ts)⟩
      refine VR_ext (d := 0) (Ext_cut ?_) (Nat.le_refl _) (VR_lev0 h4 hvr)
      rw [h3.d, hd]; omega
    · refine ⟨R.leave h3.r (by rw [h3.d, hd]; omega), h3.b, ?_, by rw [Mem.depth_leave, h3.d, hd]; omega⟩
      have e1 : Ext μ μ' M.depth := h3.e.mono (by rw [hd]; omega)
      exact e1.trans (Ext_cut (by rw [h3.d, hd]; omega))
  cases e with
  | normal =>
    obtain ⟨env', M', μ', h1, h2, h3, h4⟩ := hp
    exact fin env' M' μ' h1 h2 h3 h4.2.1 h4.2.2
  | ret =>
    obtain ⟨env', M', μ', h1, h2, h3, h4⟩ := hp
    exact fin env' M' μ' h1 h2 h3 h4.2.1 h4.2.2
  | exit id =>
    obtain ⟨env', M', μ', h1, h2, h3, h4⟩ := hp
    rcases h4.1 with h | h <;> cases h
  | goto l =>
    obtain ⟨env', M', μ', h1, h2, h3, h4⟩ := hp
    rcases h4.1 with h | h <;> cases h
  | panic ch => exact hp.elim
  | outgrown => exact hp.elim

def callable (P : Program) (k : FuncId) : Bool := match P.funcs[k]? with | some fn => fn.body.isSome && fn.name != "runtime.NumGoroutine" | none => false

theorem OpW_call {o : Oper} {c : Call} {f : Operand} {k : FuncId} {first caps : List AV} {Post : AV → Mem → Prop} (ho : o.op = .call c) (hc : c.callee = .value f) (hf : ev env f = .fn (.func k) first caps) (hk : callable P k = true)
    (h : AC P k (first ++ c.args.toList.map (ev env) ++ caps) M Post) : OpW P o env M Post := by
  intro base μ w a K Q hR h0 he hK
  have hfv := he f (by rw [ho]; simp [Op.operands, Call.operands, hc])
  rw [hf] at hfv
  simp only [VR] at hfv
  obtain ⟨cf, cc, hfe, hv1, hv2⟩ := hfv
  have hargs := evs_ok (env := env) (a := a) (μ := μ) (d := M.depth) c.args.toList (fun x hx => he x (by rw [ho]; simp only [Op.operands, Call.operands]; simp; right; simpa using hx))
  unfold callable at hk
  split at hk
  · rename_i fn hfn
    simp only [Bool.and_eq_true, bne_iff_ne, ne_eq] at hk
    have hbody : fn.body.isNone = false := by
      cases hb : fn.body with
      | none => rw [hb] at hk; simp at hk
      | some c => rfl
    have hrun : (execOp a.eval o).run P w = .ok (.enter k (cf ++ c.args.map a.eval ++ cc)) w := by
      simp only [execOp, ho, resolve, hc, hfe, Deferred.ofValue, Sem.run_bind, Sem.run_pure, Result.andThen_ok, invoke, callFunc, run_program, hfn]
      rw [if_neg (by simpa using hk.2), if_neg (by simp [hbody])]
      rfl
    unfold Oper.wp
    rw [hrun, Oper.upon_enter]
    have hvs : VRs μ M.depth (first ++ c.args.toList.map (ev env) ++ caps) (cf ++ c.args.map a.eval ++ cc).toList := by
      simp only [Array.toList_append, Array.toList_map]
      exact VRs_append (VRs_append hv1 hargs) hv2
    refine (h base μ w _ hR hvs).mono fun e w' ⟨v, cv, M', μ', h1, h2, h3, h4⟩ => ?_
    subst h1
    exact hK v cv M' μ' w' (VR_lim (Nat.zero_le _) h2) h3 h4
  · cases hk
end
end Go.Abs
