/- The walk through a region, made for rewriting. -/
import Derived.Test.YtlpcbfndjffpfaaAbs15
set_option linter.unusedVariables false
set_option linter.unnecessarySimpa false
set_option linter.unusedSimpArgs false
namespace Go.Abs
open Go.RowKit (Below)

def isCall : Op → Bool | .call c => (match c.callee with | .builtin _ => false | _ => true) | _ => false
/-- In the text's order. -/
def AT (P : Program) (hp : List Nat) (ops : Array Oper) : List Oper → (List AV → Mem → Prop) → List AV → Mem → Prop
  | [], K, env, M => K env M
  | o :: os, K, env, M =>
    match wantedA ops o env with
    | none => False
    | some false => AT P hp ops os K (putA env o.dst (.tup [])) M
    | some true =>
      match opA P hp o env M with
      | some r => AT P hp ops os K (putA env o.dst r.1) r.2
      | none => if isCall o.op = true then OpW P o env M fun v M' => AT P hp ops os K (putA env o.dst v) M' else False

theorem AT_text {P : Program} {hp : List Nat} {ops : Array Oper} {Q : Exit → Act → World → Prop} : ∀ (L : List Nat) (os : List Oper) (hL : L.map (ops[·]?) = os.map some) (K : List AV → Mem → Prop) (env : List AV) (M : Mem),
    AT P hp ops os K env M → ∀ (base : Nat) (μ : Mu) (a : Act) (w : World), R base μ M w → 0 < M.depth → EnvR μ M.depth env a →
    (∀ env' M' μ' a' w', EnvR μ' M.depth env' a' → a'.defers = a.defers → Okay base μ M w μ' M' w' → K env' M' → Q .normal a' w') → wpOps P ops Q L a w
  | [], [], hL, K, env, M, h, base, μ, a, w, hR, h0, he, hQ => hQ env M μ a w he rfl (Okay.refl hR) h
  | [], o :: os, hL, K, env, M, h, base, μ, a, w, hR, h0, he, hQ => by simp at hL
  | i :: L, [], hL, K, env, M, h, base, μ, a, w, hR, h0, he, hQ => by simp at hL
  | i :: L, o :: os, hL, K, env, M, h, base, μ, a, w, hR, h0, he, hQ => by
    rw [wpOps_cons]
    unfold wpOp
    simp only [AT] at h
    simp only [List.map_cons, List.cons.injEq] at hL
    obtain ⟨ho, hL⟩ := hL
    simp only [ho]
    cases hw : wantedA ops o env with
    | none => simp only [hw] at h
    | some b =>
      rw [wantedA_ok he hw]
      simp only [hw] at h
      cases b with
      | false =>
        simp only at h
        simp only [Bool.false_eq_true, if_false]
        exact AT_text L os hL K _ M h base μ _ w hR h0 (EnvR_put he (by simp [VR, VRs, undef]) o.dst) (fun env' M' μ' a' w' h1 h2 h3 h4 => hQ env' M' μ' a' w' h1 (by rw [h2]; cases o.dst <;> rfl) h3 h4)
      | true =>
        simp only at h
        simp only [if_true]
        refine .inl ?_
        have key : OpW P o env M fun v M' => AT P hp ops os K (putA env o.dst v) M' := by
          split at h
          · rename_i r hr
            exact OpW.of_opA (hp := hp) (v := r.1) (M' := r.2) hr h
          · split at h
            · exact h
            · exact h.elim
        refine key base μ w a _ Q hR h0 (fun x _ => ev_ok he x) fun v cv M' μ' w' hv hok hpost => ?_
        refine AT_text L os hL K _ M' hpost base μ' _ w' hok.r (by rw [hok.d]; exact h0) (by rw [hok.d]; exact EnvR_put (VRs_ext hok.e (Nat.le_refl _) he) hv o.dst) (fun env' M'' μ'' a' w'' h1 h2 h3 h4 => hQ env' M'' μ'' a' w'' (by rw [← hok.d]; exact h1) (by rw [h2]; cases o.dst <;> rfl) (hok.trans h3) h4)

theorem W_regionT {P : Program} {Q : Ex → List AV → Mem → Prop} {env : List AV} {M : Mem} (hp : List Nat) {id : Nat} {ops : List Oper} (h : AT P hp ops.toArray ops (Q .norm) env M) : W P (.region id ops.toArray false) Q env M := fun base μ w a hR h0 he => by
  refine wp_region ?_
  refine AT_text _ ops ?_ _ _ _ h base μ a w hR h0 he fun env' M' μ' a' w' h1 h2 h3 h4 => ⟨env', M', μ', h1, h2, h3, h4⟩
  apply List.ext_getElem?
  intro i
  simp only [List.getElem?_map, List.size_toArray]
  by_cases hi : i < ops.length
  · rw [List.getElem?_range hi]
    simp [hi]
  · rw [List.getElem?_eq_none (by simp; omega), List.getElem?_eq_none (by omega)]
    rfl

/-- A value is put, and the walk goes on. -/
def goT (X : Option (AV × Mem)) (P : Program) (hp : List Nat) (ops : Array Oper) (os : List Oper) (K : List AV → Mem → Prop) (env : List AV) (dst : Option Tmp) : Prop :=
  match X with | some r => AT P hp ops os K (putA env dst r.1) r.2 | none => False
def goV (X : Option AV) (P : Program) (hp : List Nat) (ops : Array Oper) (os : List Oper) (K : List AV → Mem → Prop) (env : List AV) (M : Mem) (dst : Option Tmp) : Prop :=
  match X with | some v => AT P hp ops os K (putA env dst v) M | none => False

section
variable {P : Program} {hp : List Nat} {ops : Array Oper} {os : List Oper} {K : List AV → Mem → Prop} {env : List AV} {M M' : Mem} {d : Option Tmp} {ty : TypeId} {pos : String} {af : Array Edge} {v x y : AV}
@[go_sem] theorem goT_some : goT (some (v, M')) P hp ops os K env d = AT P hp ops os K (putA env d v) M' := (rfl)
@[go_sem] theorem goV_some : goV (some v) P hp ops os K env M d = AT P hp ops os K (putA env d v) M := (rfl)
@[go_sem] theorem AT_nil : AT P hp ops [] K env M = K env M := (rfl)
@[go_sem] theorem putA_some {t : Tmp} : putA env (some t) v = env.set t v := (rfl)
@[go_sem] theorem putA_none : putA env none v = env := (rfl)
theorem AT_op {o : Op} (ho : isCall o = false) : AT P hp ops (⟨d, o, ty, pos, af, none⟩ :: os) K env M = goT (opA P hp ⟨d, o, ty, pos, af, none⟩ env M) P hp ops os K env d := by
  simp only [AT, wantedA, goT]
  cases opA P hp ⟨d, o, ty, pos, af, none⟩ env M <;> simp [ho]
theorem goT_pureV {X : Option AV} : goT (pureV X M) P hp ops os K env d = goV X P hp ops os K env M d := by cases X <;> rfl
/-- A guarded operation. -/
@[go_sem] theorem AT_guard {o : Op} {j : Nat} {b : Bool} : AT P hp ops (⟨d, o, ty, pos, af, some (j, b)⟩ :: os) K env M =
    match wantedA ops ⟨d, o, ty, pos, af, some (j, b)⟩ env with
    | none => False
    | some false => AT P hp ops os K (putA env d (.tup [])) M
    | some true => AT P hp ops (⟨d, o, ty, pos, af, none⟩ :: os) K env M := by
  simp only [AT]
  cases wantedA ops ⟨d, o, ty, pos, af, some (j, b)⟩ env with
  | none => rfl
  | some c =>
    cases c
    · rfl
    · simp only [wantedA]
      have e : opA P hp ⟨d, o, ty, pos, af, some (j, b)⟩ env M = opA P hp ⟨d, o, ty, pos, af, none⟩ env M := rfl
      rw [e]
      rfl
@[go_sem] theorem AT_move {o : Operand} : AT P hp ops (⟨d, .move o, ty, pos, af, none⟩ :: os) K env M = AT P hp ops os K (putA env d (ev env o)) M := (rfl)
@[go_sem] theorem AT_assign {o : Operand} : AT P hp ops (⟨d, .assign o, ty, pos, af, none⟩ :: os) K env M = AT P hp ops os K (putA env d (ev env o)) M := (rfl)
def pickA (c x y : AV) : Option AV := match c with | .bool c => some (if c = true then x else y) | _ => none
@[go_sem] theorem AT_pick {c a b : Operand} : AT P hp ops (⟨d, .pick c a b, ty, pos, af, none⟩ :: os) K env M = goV (pickA (ev env c) (ev env a) (ev env b)) P hp ops os K env M d := by
  rw [AT_op rfl, ← goT_pureV]
  simp only [opA, pickA]
  cases ev env c <;> rfl
def binG (P : Program) (op : BinOp) (t : TypeId) (cx cy : Bool) (x y : AV) : Option AV := if notUndef x = true ∧ notUndef y = true ∧ guardA P op t cx cy x y = true then binA P op t x y else none
@[go_sem] theorem AT_bin {op : BinOp} {t ty2 : TypeId} {x y : Operand} : AT P hp ops (⟨d, .binOp op t x y ty2, ty, pos, af, none⟩ :: os) K env M = goV (binG P op t (isConst x) (isConst y) (ev env x) (ev env y)) P hp ops os K env M d := by
  rw [AT_op rfl, ← goT_pureV]
  simp only [opA, binG]
  split <;> simp_all [pureV]
@[go_sem] theorem AT_un {op : UnOp} {t : TypeId} {x : Operand} : AT P hp ops (⟨d, .unOp op t x, ty, pos, af, none⟩ :: os) K env M = goV (unA op (ev env x)) P hp ops os K env M d := by
  rw [AT_op rfl, ← goT_pureV]; rfl
@[go_sem] theorem AT_convert {s t : TypeId} {x : Operand} : AT P hp ops (⟨d, .convert s t x, ty, pos, af, none⟩ :: os) K env M = goT (convA P s t (match d with | some d => hp.contains d | none => false) (ev env x) M) P hp ops os K env d := by
  rw [AT_op rfl]; rfl
@[go_sem] theorem AT_load {t : TypeId} {x : Operand} : AT P hp ops (⟨d, .load t x, ty, pos, af, none⟩ :: os) K env M = goV (loadA P t (ev env x) M) P hp ops os K env M d := by
  rw [AT_op rfl, ← goT_pureV]; rfl
def stores (P : Program) (t : TypeId) (x v : AV) (M : Mem) : Option (AV × Mem) := pureM (storeA P t x v M) .undef
@[go_sem] theorem AT_store {t : TypeId} {x y : Operand} : AT P hp ops (⟨d, .store t x y, ty, pos, af, none⟩ :: os) K env M = goT (stores P t (ev env x) (ev env y) M) P hp ops os K env d := by
  rw [AT_op rfl]; rfl
@[go_sem] theorem AT_nilCheck {x : Operand} : AT P hp ops (⟨d, .nilCheck x, ty, pos, af, none⟩ :: os) K env M = goV (nilCheckA (ev env x)) P hp ops os K env M d := by
  rw [AT_op rfl, ← goT_pureV]; rfl
@[go_sem] theorem AT_fieldAddr {t : TypeId} {x : Operand} {f : Nat} : AT P hp ops (⟨d, .fieldAddr t x f, ty, pos, af, none⟩ :: os) K env M = goV (fieldAddrA P t (ev env x) f M) P hp ops os K env M d := by
  rw [AT_op rfl, ← goT_pureV]; rfl
@[go_sem] theorem AT_field {t : TypeId} {x : Operand} {f : Nat} : AT P hp ops (⟨d, .field t x f, ty, pos, af, none⟩ :: os) K env M = goV (fieldA P t (ev env x) f) P hp ops os K env M d := by
  rw [AT_op rfl, ← goT_pureV]; rfl
@[go_sem] theorem AT_indexAddr {t : TypeId} {x i : Operand} : AT P hp ops (⟨d, .indexAddr t x i, ty, pos, af, none⟩ :: os) K env M = goV (indexAddrA P t (ev env x) (ev env i) M) P hp ops os K env M d := by
  rw [AT_op rfl, ← goT_pureV]; rfl
@[go_sem] theorem AT_index {t : TypeId} {x i : Operand} : AT P hp ops (⟨d, .index t x i, ty, pos, af, none⟩ :: os) K env M = goV (indexA P t (ev env x) (ev env i)) P hp ops os K env M d := by
  rw [AT_op rfl, ← goT_pureV]; rfl
@[go_sem] theorem AT_extract {x : Operand} {i : Nat} : AT P hp ops (⟨d, .extract x i, ty, pos, af, none⟩ :: os) K env M = goV (extractA (ev env x) i) P hp ops os K env M d := by
  rw [AT_op rfl, ← goT_pureV]; rfl
@[go_sem] theorem AT_alloc {t : TypeId} : AT P hp ops (⟨d, .alloc t, ty, pos, af, none⟩ :: os) K env M = goT (allocA P t (match d with | some d => hp.contains d | none => false) M) P hp ops os K env d := by
  rw [AT_op rfl]; rfl
@[go_sem] theorem AT_box {t : TypeId} {x : Operand} : AT P hp ops (⟨d, .box t x, ty, pos, af, none⟩ :: os) K env M = goT (boxA P t (match d with | some d => hp.contains d | none => false) (ev env x) M) P hp ops os K env d := by
  rw [AT_op rfl]; rfl
@[go_sem] theorem AT_build {t : TypeId} {ps : List (Nat × Operand)} : AT P hp ops (⟨d, .build t ps.toArray, ty, pos, af, none⟩ :: os) K env M = goV (buildA P t (ps.map fun p => (p.1, ev env p.2))) P hp ops os K env M d := by
  rw [AT_op rfl, ← goT_pureV]; rfl
@[go_sem] theorem AT_buildSlice {t : TypeId} {n : Nat} {ps : List (Nat × Operand)} : AT P hp ops (⟨d, .buildSlice t n ps.toArray, ty, pos, af, none⟩ :: os) K env M = goT (buildSliceA P t (match d with | some d => hp.contains d | none => false) n (ps.map fun p => (p.1, ev env p.2)) M) P hp ops os K env d := by
  rw [AT_op rfl]; rfl
@[go_sem] theorem AT_makeFunc {f : Fn} {a b : List Operand} : AT P hp ops (⟨d, .makeFunc f a.toArray b.toArray, ty, pos, af, none⟩ :: os) K env M = AT P hp ops os K (putA env d (.fn f (a.map (ev env)) (b.map (ev env)))) M := by
  rw [AT_op rfl]; rfl
def slices (P : Program) (t : TypeId) (x : AV) (lo hi mx : Option AV) (M : Mem) : Option AV := match ti P t with | some i => (match i.desc with | .array _ _ => none | _ => sliceA P t x lo hi mx M) | none => none
@[go_sem] theorem AT_slice {t : TypeId} {x : Operand} {lo hi mx : Option Operand} : AT P hp ops (⟨d, .slice t x lo hi mx, ty, pos, af, none⟩ :: os) K env M = goV (slices P t (ev env x) (lo.map (ev env)) (hi.map (ev env)) (mx.map (ev env)) M) P hp ops os K env M d := by
  rw [AT_op rfl, ← goT_pureV]
  simp only [opA, slices]
  cases ti P t with
  | none => rfl
  | some i => obtain ⟨sz, b, de, z, pl⟩ := i; cases de <;> rfl
@[go_sem] theorem AT_lookup {t : TypeId} {x k : Operand} {ok : Bool} : AT P hp ops (⟨d, .lookup t x k ok, ty, pos, af, none⟩ :: os) K env M = goV (lookupA P t (ev env x) (ev env k) ok M) P hp ops os K env M d := by
  rw [AT_op rfl, ← goT_pureV]; rfl
def updates (P : Program) (t : TypeId) (x k v : AV) (M : Mem) : Option (AV × Mem) := pureM (updateA P t x k v M) .undef
@[go_sem] theorem AT_mapUpdate {t : TypeId} {x k y : Operand} : AT P hp ops (⟨d, .mapUpdate t x k y, ty, pos, af, none⟩ :: os) K env M = goT (updates P t (ev env x) (ev env k) (ev env y) M) P hp ops os K env d := by
  rw [AT_op rfl]; rfl
@[go_sem] theorem AT_insert {t : TypeId} {x k y : Operand} : AT P hp ops (⟨d, .insert t x k y, ty, pos, af, none⟩ :: os) K env M = goT (updates P t (ev env x) (ev env k) (ev env y) M) P hp ops os K env d := by
  rw [AT_op rfl]; rfl
@[go_sem] theorem AT_makeMap {t : TypeId} : AT P hp ops (⟨d, .makeMap t none, ty, pos, af, none⟩ :: os) K env M = AT P hp ops os K (putA env d (.map M.heap.length)) (M.pushH (.map [])) := by
  rw [AT_op rfl]; rfl
@[go_sem] theorem AT_makeSlice {t : TypeId} {l c : Operand} : AT P hp ops (⟨d, .makeSlice t l c, ty, pos, af, none⟩ :: os) K env M = goT (makeSliceA P t (match d with | some d => hp.contains d | none => false) (ev env l) (ev env c) M) P hp ops os K env d := by
  rw [AT_op rfl]; rfl
/-- The builtins. -/
@[go_sem] theorem AT_len {x : Operand} {t : TypeId} : AT P hp ops (⟨d, .call ⟨.builtin .len, #[x], #[t]⟩, ty, pos, af, none⟩ :: os) K env M = goV (lenA P t (ev env x) M) P hp ops os K env M d := by
  rw [AT_op rfl, ← goT_pureV]; rfl
@[go_sem] theorem AT_min {xs : List Operand} {ts : Array TypeId} : AT P hp ops (⟨d, .call ⟨.builtin .min, xs.toArray, ts⟩, ty, pos, af, none⟩ :: os) K env M = goV (minA (xs.map (ev env))) P hp ops os K env M d := by
  rw [AT_op rfl, ← goT_pureV]; rfl
@[go_sem] theorem AT_max {xs : List Operand} {ts : Array TypeId} : AT P hp ops (⟨d, .call ⟨.builtin .max, xs.toArray, ts⟩, ty, pos, af, none⟩ :: os) K env M = goV (maxA (xs.map (ev env))) P hp ops os K env M d := by
  rw [AT_op rfl, ← goT_pureV]; rfl
@[go_sem] theorem AT_append {s x : Operand} {t1 t2 : TypeId} : AT P hp ops (⟨d, .call ⟨.builtin .append, #[s, x], #[t1, t2]⟩, ty, pos, af, none⟩ :: os) K env M = goT (appendA P t1 t2 (match d with | some d => hp.contains d | none => false) (ev env s) (ev env x) M) P hp ops os K env d := by
  rw [AT_op rfl]; rfl
def deletes (P : Program) (t : TypeId) (x k : AV) (M : Mem) : Option (AV × Mem) := pureM (deleteA P t x k M) (.tup [])
@[go_sem] theorem AT_delete {x k : Operand} {t t2 : TypeId} : AT P hp ops (⟨d, .call ⟨.builtin .delete, #[x, k], #[t, t2]⟩, ty, pos, af, none⟩ :: os) K env M = goT (deletes P t (ev env x) (ev env k) M) P hp ops os K env d := by
  rw [AT_op rfl]; rfl
def clears (P : Program) (t : TypeId) (x : AV) (M : Mem) : Option (AV × Mem) := pureM (clearA P t x M) (.tup [])
@[go_sem] theorem AT_clear {x : Operand} {t : TypeId} : AT P hp ops (⟨d, .call ⟨.builtin .clear, #[x], #[t]⟩, ty, pos, af, none⟩ :: os) K env M = goT (clears P t (ev env x) M) P hp ops os K env d := by
  rw [AT_op rfl]; rfl
/-- A call of a function of the program. -/
theorem AT_call {f : Operand} {as : List Operand} {ts : Array TypeId} {k : FuncId} {first caps : List AV} {Post : AV → Mem → Prop} (hf : ev env f = .fn (.func k) first caps) (hk : callable P k = true)
    (h : AC P k (first ++ as.map (ev env) ++ caps) M Post) (hp' : ∀ v M', M'.depth = M.depth → Post v M' → AT P hp ops os K (putA env d v) M') : AT P hp ops (⟨d, .call ⟨.value f, as.toArray, ts⟩, ty, pos, af, none⟩ :: os) K env M := by
  simp only [AT, wantedA]
  have e : opA P hp ⟨d, .call ⟨.value f, as.toArray, ts⟩, ty, pos, af, none⟩ env M = none := rfl
  rw [e]
  simp only [isCall, if_true]
  have h2 : AC P k (first ++ as.map (ev env) ++ caps) M fun v M' => M'.depth = M.depth ∧ Post v M' := fun base μ w cargs hR hv =>
    (h base μ w cargs hR hv).mono fun e w' ⟨v, cv, M', μ', h1, h2, h3, h4⟩ => ⟨v, cv, M', μ', h1, h2, h3, h3.d, h4⟩
  exact (OpW_call (o := ⟨d, .call ⟨.value f, as.toArray, ts⟩, ty, pos, af, none⟩) rfl rfl hf hk h2).mono fun v M' hq => hp' v M' hq.1 hq.2
end
end Go.Abs
