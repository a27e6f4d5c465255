/- Every operation that is no call of a Go function. -/
import Derived.Test.YtlpcbfndjffpfaaAbs12
set_option linter.unusedVariables false
set_option linter.unnecessarySimpa false
set_option linter.unusedSimpArgs false
namespace Go.Abs
open Go.RowKit (Below)

def ev (env : List AV) : Operand → AV
  | .tmp t => env.getD t .undef
  | .const v => (ofConst v).getD .undef
  | .global _ => .undef
  | .func f => .fn (.func f) [] []

/-- The frame's temporaries. -/
def EnvR (μ : Mu) (d : Nat) (env : List AV) (a : Act) : Prop := VRs μ d env a.tmps.toList

theorem ev_ok {μ : Mu} {d : Nat} {env : List AV} {a : Act} (h : EnvR μ d env a) (x : Operand) : VR μ d (ev env x) (a.eval x) := by
  cases x with
  | tmp t =>
    simp only [ev, Act.eval]
    rcases Nat.lt_or_ge t env.length with hlt | hge
    · obtain ⟨y, hy, hv⟩ := VRs_get t h (List.getElem?_eq_getElem hlt)
      have hy' : a.tmps[t]? = some y := by simpa using hy
      simp [List.getD, List.getElem?_eq_getElem hlt, Array.getD_eq_getD_getElem?, hy', hv]
    · simp [List.getD, List.getElem?_eq_none hge, VR]
  | const v =>
    simp only [ev, Act.eval]
    cases hc : ofConst v with
    | none => simp [VR]
    | some x => exact VR_ofConst hc
  | global g => simp [ev, VR]
  | func f => simp [ev, Act.eval, VR, VRs]

theorem evs_ok {μ : Mu} {d : Nat} {env : List AV} {a : Act} : ∀ (xs : List Operand), (∀ x, x ∈ xs → VR μ d (ev env x) (a.eval x)) → VRs μ d (xs.map (ev env)) (xs.map a.eval)
  | [], _ => VRs_nil
  | x :: xs, h => VRs_cons (h x (by simp)) (evs_ok xs fun y hy => h y (by simp [hy]))
theorem evp_ok {μ : Mu} {d : Nat} {env : List AV} {a : Act} : ∀ (xs : List (Nat × Operand)), (∀ p, p ∈ xs → VR μ d (ev env p.2) (a.eval p.2)) → PRs μ d (xs.map fun p => (p.1, ev env p.2)) (xs.map fun p => (p.1, a.eval p.2))
  | [], _ => rfl
  | (i, x) :: xs, h => ⟨_, _, rfl, h (i, x) (by simp), evp_ok xs fun y hy => h y (by simp [hy])⟩
theorem evo_ok {μ : Mu} {d : Nat} {env : List AV} {a : Act} (x : Option Operand) (h : ∀ y, x = some y → VR μ d (ev env y) (a.eval y)) : OVR μ d (x.map (ev env)) (x.map a.eval) := by
  cases x with
  | none => trivial
  | some x => exact h x rfl

def notUndef : AV → Bool | .undef => false | _ => true
theorem notUndef_ne {x : AV} (h : notUndef x = true) : x ≠ .undef := by intro e; subst e; simp [notUndef] at h

def pureV (v : Option AV) (M : Mem) : Option (AV × Mem) := match v with | some v => some (v, M) | none => none
def pureM (M : Option Mem) (v : AV) : Option (AV × Mem) := match M with | some M => some (v, M) | none => none

def builtinA (P : Program) (h : Bool) (b : Builtin) (ts : List TypeId) (xs : List AV) (M : Mem) : Option (AV × Mem) :=
  match b, ts, xs with
  | .append, [t1, t2], [s, x] => appendA P t1 t2 h s x M
  | .len, [t], [x] => pureV (lenA P t x M) M
  | .min, _, xs => pureV (minA xs) M
  | .max, _, xs => pureV (maxA xs) M
  | .delete, [t, _], [x, k] => pureM (deleteA P t x k M) (.tup [])
  | .clear, [t], [x] => pureM (clearA P t x M) (.tup [])
  | _, _, _ => none

def nilCheckA : AV → Option AV
  | .ptr a => some (.ptr a)
  | .iface t v => some (.iface t v)
  | .fn (.func f) a b => some (.fn (.func f) a b)
  | .map m => some (.map m)
  | _ => none

/-- 'hp': the temporaries whose new blocks lie in the heap; all others lie in the frame. -/
def opA (P : Program) (hp : List Nat) (o : Oper) (env : List AV) (M : Mem) : Option (AV × Mem) :=
  let h := match o.dst with | some d => hp.contains d | none => false
  match o.op with
  | .move x => some (ev env x, M)
  | .assign x => some (ev env x, M)
  | .pick c a b => match ev env c with | .bool c => some (if c = true then ev env a else ev env b, M) | _ => none
  | .alloc e => allocA P e h M
  | .box e x => boxA P e h (ev env x) M
  | .build t parts => pureV (buildA P t (parts.toList.map fun p => (p.1, ev env p.2))) M
  | .buildSlice t n parts => buildSliceA P t h n (parts.toList.map fun p => (p.1, ev env p.2)) M
  | .load t a => pureV (loadA P t (ev env a) M) M
  | .store t a x => pureM (storeA P t (ev env a) (ev env x) M) .undef
  | .nilCheck x => pureV (nilCheckA (ev env x)) M
  | .binOp op t x y _ =>
    if notUndef (ev env x) = true ∧ notUndef (ev env y) = true ∧ guardA P op t (isConst x) (isConst y) (ev env x) (ev env y) = true then pureV (binA P op t (ev env x) (ev env y)) M else none
  | .unOp op _ x => pureV (unA op (ev env x)) M
  | .convert src dst x => convA P src dst h (ev env x) M
  | .makeFunc fn first caps => some (.fn fn (first.toList.map (ev env)) (caps.toList.map (ev env)), M)
  | .makeMap _ none => some (.map M.heap.length, M.pushH (.map []))
  | .makeSlice t l c => makeSliceA P t h (ev env l) (ev env c) M
  | .slice t x lo hi mx => match ti P t with | some i => (match i.desc with | .array _ _ => none | _ => pureV (sliceA P t (ev env x) (lo.map (ev env)) (hi.map (ev env)) (mx.map (ev env)) M) M) | none => none
  | .fieldAddr t x f => pureV (fieldAddrA P t (ev env x) f M) M
  | .field t x f => pureV (fieldA P t (ev env x) f) M
  | .indexAddr t x ix => pureV (indexAddrA P t (ev env x) (ev env ix) M) M
  | .index t x ix => pureV (indexA P t (ev env x) (ev env ix)) M
  | .lookup t x k ok => pureV (lookupA P t (ev env x) (ev env k) ok M) M
  | .mapUpdate t m k x => pureM (updateA P t (ev env m) (ev env k) (ev env x) M) .undef
  | .insert t m k x => pureM (updateA P t (ev env m) (ev env k) (ev env x) M) .undef
  | .extract t i => pureV (extractA (ev env t) i) M
  | .call { callee := .builtin b, args, argTypes } => builtinA P h b argTypes.toList (args.toList.map (ev env)) M
  | _ => none

def OpOK (P : Program) (base : Nat) (μ : Mu) (M : Mem) (w : World) (s : Sem Next) (v : AV) (M' : Mem) : Prop :=
  ∃ w' μ', ((∃ cv, s.run P w = .ok (.value cv) w' ∧ VR μ' M.depth v cv) ∨ (s.run P w = .ok .skip w' ∧ v = .undef)) ∧ Okay base μ M w μ' M' w'

theorem OpOK.of_same {P : Program} {base : Nat} {μ : Mu} {M : Mem} {w : World} {s : Sem Value} {v : AV} {d : Nat} (h : R base μ M w) (hd : d ≤ M.depth) (hs : ∃ cv, s.run P w = .ok cv w ∧ VR μ d v cv) : OpOK P base μ M w (do pure (.value (← s))) v M := by
  obtain ⟨cv, h1, h2⟩ := hs
  exact ⟨w, μ, .inl ⟨cv, by simp [h1], VR_lim hd h2⟩, Okay.refl h⟩
theorem OpOK.of_sem {P : Program} {base : Nat} {μ : Mu} {M M' : Mem} {w : World} {s : Sem Value} {v : AV} (hs : ∃ cv w' μ', s.run P w = .ok cv w' ∧ VR μ' M.depth v cv ∧ Okay base μ M w μ' M' w') : OpOK P base μ M w (do pure (.value (← s))) v M' := by
  obtain ⟨cv, w', μ', h1, h2, h3⟩ := hs
  exact ⟨w', μ', .inl ⟨cv, by simp [h1], h2⟩, h3⟩
theorem OpOK.of_unit {P : Program} {base : Nat} {μ : Mu} {M M' : Mem} {w : World} {s : Sem Unit} (hs : ∃ w', s.run P w = .ok () w' ∧ Okay base μ M w μ M' w') : OpOK P base μ M w (do s; pure .skip) .undef M' := by
  obtain ⟨w', h1, h2⟩ := hs
  exact ⟨w', μ, .inr ⟨by simp [h1], rfl⟩, h2⟩

theorem pureV_some {v : Option AV} {M : Mem} {r : AV} {M' : Mem} (h : pureV v M = some (r, M')) : v = some r ∧ M' = M := by
  unfold pureV at h; split at h
  · cases h; exact ⟨rfl, rfl⟩
  · cases h
theorem pureM_some {m : Option Mem} {v : AV} {r : AV} {M' : Mem} (h : pureM m v = some (r, M')) : m = some M' ∧ r = v := by
  unfold pureM at h; split at h
  · cases h; exact ⟨rfl, rfl⟩
  · cases h

theorem builtinA_ok {P : Program} {base : Nat} {μ : Mu} {M M' : Mem} {w : World} {hh : Bool} {b : Builtin} {ts : Array TypeId} {ty : TypeId} {consts : Array Bool} {xs : List AV} {cs : Array Value} {v : AV} (h : R base μ M w) (h0 : 0 < M.depth) (hx : VRs μ M.depth xs cs.toList)
    (hs : builtinA P hh b ts.toList xs M = some (v, M')) : OpOK P base μ M w (builtin b ts ty consts cs) v M' := by
  unfold builtinA at hs
  split at hs
  · rename_i t1 t2 s x hts
    simp only [VRs] at hx
    obtain ⟨c1, r1, e1, hc1, c2, r2, e2, hc2, e3⟩ := hx
    subst e3; rw [e2] at e1
    have hcs : cs = #[c1, c2] := by apply Array.ext'; simpa using e1
    have hts' : ts = #[t1, t2] := by apply Array.ext'; simpa using hts
    subst hcs; subst hts'
    exact OpOK.of_sem (appendA_ok h h0 hc1 hc2 (Nat.le_refl _) hs)
  · rename_i t x hts
    obtain ⟨h1, rfl⟩ := pureV_some hs
    simp only [VRs] at hx
    obtain ⟨c1, r1, e1, hc1, e2⟩ := hx
    subst e2
    have hcs : cs = #[c1] := by apply Array.ext'; simpa using e1
    have hts' : ts = #[t] := by apply Array.ext'; simpa using hts
    subst hcs; subst hts'
    exact OpOK.of_same h (Nat.le_refl _) (lenA_ok h hc1 h1)
  · obtain ⟨h1, rfl⟩ := pureV_some hs
    exact OpOK.of_same h (Nat.le_refl _) (minA_ok hx h1)
  · obtain ⟨h1, rfl⟩ := pureV_some hs
    exact OpOK.of_same h (Nat.le_refl _) (maxA_ok hx h1)
  · rename_i t t2 x k hts
    obtain ⟨h1, rfl⟩ := pureM_some hs
    simp only [VRs] at hx
    obtain ⟨c1, r1, e1, hc1, c2, r2, e2, hc2, e3⟩ := hx
    subst e3; rw [e2] at e1
    have hcs : cs = #[c1, c2] := by apply Array.ext'; simpa using e1
    have hts' : ts = #[t, t2] := by apply Array.ext'; simpa using hts
    subst hcs; subst hts'
    obtain ⟨w', q1, q2⟩ := deleteA_ok (P := P) (t2 := t2) (ty := ty) h hc1 hc2 h1
    exact OpOK.of_sem ⟨_, w', μ, q1, by simp [VR, VRs], q2⟩
  · rename_i t x hts
    obtain ⟨h1, rfl⟩ := pureM_some hs
    simp only [VRs] at hx
    obtain ⟨c1, r1, e1, hc1, e2⟩ := hx
    subst e2
    have hcs : cs = #[c1] := by apply Array.ext'; simpa using e1
    have hts' : ts = #[t] := by apply Array.ext'; simpa using hts
    subst hcs; subst hts'
    obtain ⟨w', q1, q2⟩ := clearA_ok (P := P) (ty := ty) h hc1 h1
    exact OpOK.of_sem ⟨_, w', μ, q1, by simp [VR, VRs], q2⟩
  · cases hs

theorem opA_ok {P : Program} {base : Nat} {μ : Mu} {M M' : Mem} {w : World} {hp : List Nat} {o : Oper} {env : List AV} {a : Act} {v : AV} (h : R base μ M w) (h0 : 0 < M.depth) (he : ∀ x, x ∈ o.op.operands → VR μ M.depth (ev env x) (a.eval x)) (hs : opA P hp o env M = some (v, M')) :
    OpOK P base μ M w (execOp a.eval o) v M' := by
  unfold opA at hs
  unfold execOp
  simp only at hs ⊢
  split at hs
  · -- move
    rename_i x heq
    simp only [heq]
    rw [heq] at he
    cases hs
    exact ⟨w, μ, .inl ⟨_, rfl, (he x (by simp [Op.operands, Call.operands]))⟩, Okay.refl h⟩
  · rename_i x heq
    simp only [heq]
    rw [heq] at he
    cases hs
    exact ⟨w, μ, .inl ⟨_, rfl, (he x (by simp [Op.operands, Call.operands]))⟩, Okay.refl h⟩
  · rename_i c x y heq
    simp only [heq]
    rw [heq] at he
    split at hs
    · rename_i b hb
      cases hs
      have hc := (he c (by simp [Op.operands, Call.operands]))
      rw [hb] at hc
      simp only [VR] at hc
      refine ⟨w, μ, .inl ⟨if b = true then a.eval x else a.eval y, by simp [hc, asBool], ?_⟩, Okay.refl h⟩
      cases b
      · exact (he y (by simp [Op.operands, Call.operands]))
      · exact (he x (by simp [Op.operands, Call.operands]))
    · cases hs
  · rename_i e heq
    simp only [heq]
    rw [heq] at he
    exact OpOK.of_sem (allocA_ok h h0 hs)
  · rename_i e x heq
    simp only [heq]
    rw [heq] at he
    exact OpOK.of_sem (boxA_ok h h0 ((he x (by simp [Op.operands, Call.operands]))) hs)
  · rename_i t parts heq
    simp only [heq]
    rw [heq] at he
    obtain ⟨h1, rfl⟩ := pureV_some hs
    refine OpOK.of_same h (Nat.le_refl _) (buildA_ok ?_ h1)
    have := evp_ok (env := env) (a := a) (μ := μ) (d := _) parts.toList (fun p hp => he p.2 (by simp only [Op.operands, List.mem_toArray, List.mem_map]; exact ⟨p, hp, rfl⟩))
    simpa using this
  · rename_i t n parts heq
    simp only [heq]
    rw [heq] at he
    refine OpOK.of_sem (buildSliceA_ok (d := M.depth) h h0 ?_ hs)
    have := evp_ok (env := env) (a := a) (μ := μ) (d := _) parts.toList (fun p hp => he p.2 (by simp only [Op.operands, List.mem_toArray, List.mem_map]; exact ⟨p, hp, rfl⟩))
    simpa using this
  · rename_i t x heq
    simp only [heq]
    rw [heq] at he
    obtain ⟨h1, rfl⟩ := pureV_some hs
    obtain ⟨cv, q1, q2⟩ := loadA_ok h ((he x (by simp [Op.operands, Call.operands]))) h1
    exact OpOK.of_same h (Nat.zero_le _) ⟨cv, q1, q2⟩
  · rename_i t x y heq
    simp only [heq]
    rw [heq] at he
    obtain ⟨h1, rfl⟩ := pureM_some hs
    exact OpOK.of_unit (storeA_ok h ((he x (by simp [Op.operands, Call.operands]))) ((he y (by simp [Op.operands, Call.operands]))) h1)
  · rename_i x heq
    simp only [heq]
    rw [heq] at he
    obtain ⟨h1, rfl⟩ := pureV_some hs
    have hx := (he x (by simp [Op.operands, Call.operands]))
    have hx' := hx
    unfold nilCheckA at h1
    split at h1
    · rename_i hq
      cases h1
      rw [hq] at hx
      simp only [VR] at hx
      obtain ⟨_, _, _, _, _, hc⟩ := hx
      rw [hc, hq] at hx'
      rw [hc]
      exact ⟨w, μ, .inl ⟨_, rfl, hx'⟩, Okay.refl h⟩
    · rename_i hq
      cases h1
      rw [hq] at hx
      simp only [VR] at hx
      obtain ⟨_, hc, _⟩ := hx
      rw [hc, hq] at hx'
      rw [hc]
      exact ⟨w, μ, .inl ⟨_, rfl, hx'⟩, Okay.refl h⟩
    · rename_i hq
      cases h1
      rw [hq] at hx
      simp only [VR] at hx
      obtain ⟨_, _, hc, _⟩ := hx
      rw [hc, hq] at hx'
      rw [hc]
      exact ⟨w, μ, .inl ⟨_, rfl, hx'⟩, Okay.refl h⟩
    · rename_i hq
      cases h1
      rw [hq] at hx
      simp only [VR] at hx
      obtain ⟨_, _, hc⟩ := hx
      rw [hc, hq] at hx'
      rw [hc]
      exact ⟨w, μ, .inl ⟨_, rfl, hx'⟩, Okay.refl h⟩
    · cases h1
  · rename_i op t x y t2 heq
    simp only [heq]
    rw [heq] at he
    split at hs
    · rename_i hc
      obtain ⟨h1, rfl⟩ := pureV_some hs
      obtain ⟨cv, q1, q2⟩ := binA_ok (P := P) w ((he x (by simp [Op.operands, Call.operands]))) ((he y (by simp [Op.operands, Call.operands]))) h1
      have hg := guardA_ok (P := P) w ((he x (by simp [Op.operands, Call.operands]))) ((he y (by simp [Op.operands, Call.operands]))) (notUndef_ne hc.1) (notUndef_ne hc.2.1) hc.2.2
      exact OpOK.of_same (s := do eqGuard op t x y (a.eval x) (a.eval y); binOp op t (a.eval x) (a.eval y)) h (Nat.le_refl _) ⟨cv, by simp [hg, q1], q2⟩
    · cases hs
  · rename_i op t x heq
    simp only [heq]
    rw [heq] at he
    obtain ⟨h1, rfl⟩ := pureV_some hs
    exact OpOK.of_same h (Nat.le_refl _) (unA_ok w ((he x (by simp [Op.operands, Call.operands]))) h1)
  · rename_i src dst x heq
    simp only [heq]
    rw [heq] at he
    exact OpOK.of_sem (convA_ok h h0 ((he x (by simp [Op.operands, Call.operands]))) hs)
  · rename_i fn first caps heq
    simp only [heq]
    rw [heq] at he
    cases hs
    refine OpOK.of_same h (Nat.le_refl _) ⟨.func fn (first.map a.eval) (caps.map a.eval), by simp [Instr.makeFunc], ?_⟩
    simp only [VR]
    exact ⟨_, _, rfl, by simpa using evs_ok first.toList (fun x hx => he x (by simp only [Op.operands, Array.mem_append]; exact .inl (by simpa using hx))), by simpa using evs_ok caps.toList (fun x hx => he x (by simp only [Op.operands, Array.mem_append]; exact .inr (by simpa using hx)))⟩
  · rename_i t heq
    simp only [heq]
    rw [heq] at he
    cases hs
    obtain ⟨w', μ', q1, q2, q3⟩ := makeMap_ok (P := P) h
    refine OpOK.of_sem ⟨_, w', μ', ?_, q2, q3⟩
    simp only [Instr.makeMap, Option.map_none, Sem.run_bind, q1]
    rfl
  · rename_i t l c heq
    simp only [heq]
    rw [heq] at he
    exact OpOK.of_sem (makeSliceA_ok h h0 ((he l (by simp [Op.operands, Call.operands]))) ((he c (by simp [Op.operands, Call.operands]))) hs)
  · rename_i t x lo hi mx heq
    simp only [heq]
    rw [heq] at he
    split at hs
    · rename_i i hi'
      split at hs
      · cases hs
      · obtain ⟨h1, rfl⟩ := pureV_some hs
        exact OpOK.of_same h (Nat.le_refl _) (sliceA_ok h ((he x (by simp [Op.operands, Call.operands]))) (evo_ok lo fun y hy => he y (by subst hy; simp [Op.operands])) (evo_ok hi fun y hy => he y (by subst hy; simp [Op.operands])) (evo_ok mx fun y hy => he y (by subst hy; simp [Op.operands])) h1)
    · cases hs
  · rename_i t x f heq
    simp only [heq]
    rw [heq] at he
    obtain ⟨h1, rfl⟩ := pureV_some hs
    exact OpOK.of_same h (Nat.le_refl _) (fieldAddrA_ok h ((he x (by simp [Op.operands, Call.operands]))) h1)
  · rename_i t x f heq
    simp only [heq]
    rw [heq] at he
    obtain ⟨h1, rfl⟩ := pureV_some hs
    exact OpOK.of_same h (Nat.le_refl _) (fieldA_ok ((he x (by simp [Op.operands, Call.operands]))) h1)
  · rename_i t x ix heq
    simp only [heq]
    rw [heq] at he
    obtain ⟨h1, rfl⟩ := pureV_some hs
    exact OpOK.of_same h (Nat.le_refl _) (indexAddrA_ok h ((he x (by simp [Op.operands, Call.operands]))) ((he ix (by simp [Op.operands, Call.operands]))) h1)
  · rename_i t x ix heq
    simp only [heq]
    rw [heq] at he
    obtain ⟨h1, rfl⟩ := pureV_some hs
    exact OpOK.of_same h (Nat.le_refl _) (indexA_ok ((he x (by simp [Op.operands, Call.operands]))) ((he ix (by simp [Op.operands, Call.operands]))) h1)
  · rename_i t x k ok heq
    simp only [heq]
    rw [heq] at he
    obtain ⟨h1, rfl⟩ := pureV_some hs
    exact OpOK.of_same h (Nat.le_refl _) (lookupA_ok h ((he x (by simp [Op.operands, Call.operands]))) ((he k (by simp [Op.operands, Call.operands]))) h1)
  · rename_i t m k x heq
    simp only [heq]
    rw [heq] at he
    obtain ⟨h1, rfl⟩ := pureM_some hs
    exact OpOK.of_unit (updateA_ok h ((he m (by simp [Op.operands, Call.operands]))) ((he k (by simp [Op.operands, Call.operands]))) ((he x (by simp [Op.operands, Call.operands]))) h1)
  · rename_i t m k x heq
    simp only [heq]
    rw [heq] at he
    obtain ⟨h1, rfl⟩ := pureM_some hs
    exact OpOK.of_unit (updateA_ok h ((he m (by simp [Op.operands, Call.operands]))) ((he k (by simp [Op.operands, Call.operands]))) ((he x (by simp [Op.operands, Call.operands]))) h1)
  · rename_i t i heq
    simp only [heq]
    rw [heq] at he
    obtain ⟨h1, rfl⟩ := pureV_some hs
    exact OpOK.of_same h (Nat.le_refl _) (extractA_ok ((he t (by simp [Op.operands, Call.operands]))) h1)
  · rename_i b args ts heq
    simp only [heq]
    rw [heq] at he
    have hv : VRs μ M.depth (args.toList.map (ev env)) (args.map a.eval).toList := by simpa using evs_ok args.toList (fun x hx => he x (by simp only [Op.operands, Call.operands]; simpa using hx))
    have key := builtinA_ok (ty := o.type) (consts := args.map fun | .const _ => true | _ => false) h h0 hv hs
    obtain ⟨w', μ', q1, q2⟩ := key
    refine ⟨w', μ', ?_, q2⟩
    simp only [resolve, invoke, Sem.run_bind, Sem.run_pure, Result.andThen_ok]
    exact q1
  · cases hs

end Go.Abs
