/- Results that lie in variables. -/
import Derived.Test.YtlpcbfndjffpfaaAbs22
set_option linter.unusedVariables false
set_option linter.unnecessarySimpa false
set_option linter.unusedSimpArgs false
namespace Go.Abs
open Go.RowKit (Below)

/-- What a function hands back, read at its end. -/
def resE (P : Program) (env : List AV) (M : Mem) : List ResultVar → Option (List AV)
  | [] => some []
  | .tmp t :: rs => (resE P env M rs).map (env.getD t .undef :: ·)
  | .cell a t :: rs => match loadA P t (env.getD a .undef) M, resE P env M rs with | some v, some vs => some (v :: vs) | _, _ => none
def oneOr (vs : List AV) : AV := match vs with | [v] => v | vs => .tup vs

theorem run_resultsE {P : Program} {base : Nat} {μ : Mu} {M : Mem} {w : World} {d : Nat} {fn : Func} {env : List AV} {a : Act} {vs : List AV} (h : R base μ M w) (he : EnvR μ d env a) (hr : resE P env M fn.results.toList = some vs) :
    ∃ cv, (results fn a.tmps).run P w = .ok cv w ∧ VR μ d (oneOr vs) cv := by
  have hm : ∀ F : ResultVar → Sem Value, (∀ t, F (.tmp t) = pure (a.tmps.getD t undef)) → (∀ c t, F (.cell c t) = (do loadVar t (← asAddr (a.tmps.getD c undef)))) → ∀ (rs : List ResultVar) (vs : List AV), resE P env M rs = some vs → ∃ cs : List Value, (rs.mapM F).run P w = .ok cs w ∧ VRs μ d vs cs := by
    intro F hF hG rs
    induction rs with
    | nil => intro vs h; simp only [resE, Option.some.injEq] at h; subst h; exact ⟨[], by simp, VRs_nil⟩
    | cons r rs ih =>
      intro vs hvs
      cases r with
      | tmp t =>
        simp only [resE, Option.map_eq_some_iff] at hvs
        obtain ⟨vs', h1, rfl⟩ := hvs
        obtain ⟨cs, h2, h3⟩ := ih vs' h1
        exact ⟨a.tmps.getD t undef :: cs, by simp [List.mapM_cons, hF, h2], VRs_cons (ev_ok he (.tmp t)) h3⟩
      | cell c t =>
        simp only [resE] at hvs
        split at hvs
        · rename_i v vs' hl h1
          cases hvs
          obtain ⟨cs, h2, h3⟩ := ih vs' h1
          have hx := ev_ok he (.tmp c)
          obtain ⟨cv, h4, h5⟩ := loadA_ok (d := d) h hx hl
          have h6 : (asAddr (a.tmps.getD c undef) : Sem Addr).run P w = (Instr.sureAddr (a.tmps.getD c undef) : Sem Addr).run P w := by
            unfold loadA at hl
            split at hl
            · rename_i i p hi hp
              have hx' := hx
              have hpe : ev env (.tmp c) = .ptr p := hp
              rw [hpe] at hx'
              simp only [VR] at hx'
              obtain ⟨_, arr, _, _, _, hv⟩ := hx'
              have hv' : a.tmps.getD c undef = .pointer (some ⟨arr.blk, arr.sh + (p.off - arr.lo), none⟩) := hv
              rw [hv']; rfl
            · cases hl
          have h7 : (do loadVar t (← asAddr (a.tmps.getD c undef)) : Sem Value).run P w = .ok cv w := by
            have h8 : (do loadVar t (← Instr.sureAddr (a.tmps.getD c undef)) : Sem Value).run P w = .ok cv w := h4
            simp only [Sem.run_bind] at h8 ⊢
            rw [h6]; exact h8
          exact ⟨cv :: cs, by rw [List.mapM_cons, Sem.run_bind, hG, h7]; simp [h2], VRs_cons (VR_lim (Nat.zero_le _) h5) h3⟩
        · cases hvs
  have key : ∀ F : ResultVar → Sem Value, (∀ t, F (.tmp t) = pure (a.tmps.getD t undef)) → (∀ c t, F (.cell c t) = (do loadVar t (← asAddr (a.tmps.getD c undef)))) →
      ∃ cv, ((do
        let vs ← fn.results.mapM F
        pure (if h : vs.size = 1 then vs[0] else .tuple vs)) : Sem Value).run P w = .ok cv w ∧ VR μ d (oneOr vs) cv := by
    intro F hF hG
    obtain ⟨cs, h1, h2⟩ := hm F hF hG fn.results.toList vs hr
    refine ⟨if h : cs.toArray.size = 1 then cs.toArray[0] else .tuple cs.toArray, ?_, ?_⟩
    · simp only [Sem.run_bind]
      rw [Array.mapM_eq_mapM_toList]
      simp only [Sem.run_map]
      rw [h1]
      simp only [Result.andThen_ok, Sem.run_pure]
    · have hl := VRs_length h2
      match vs, cs, h2 with
      | [], [], _ => simp [oneOr, VR, VRs]
      | [v], [c], h2 =>
        simp only [VRs] at h2
        obtain ⟨y, ys, e, h3, e2⟩ := h2
        cases e
        simpa [oneOr] using h3
      | v :: v2 :: vs, c :: c2 :: cs, h2 =>
        simp only [oneOr, VR]
        rw [dif_neg (by simp)]
        exact ⟨_, rfl, h2⟩
      | [], c :: cs, h2 => simp [VRs] at h2
      | v :: vs, [], h2 => simp [VRs] at h2
      | [v], c :: c2 :: cs, h2 => simp at hl
      | v :: v2 :: vs, [c], h2 => simp at hl
  exact key _ (fun t => rfl) (fun c t => rfl)

theorem AC_of_WE {P : Program} {f : FuncId} {fn : Func} {c : Code} {args : List AV} {M : Mem} {Post : AV → Mem → Prop} (hf : P.funcs[f]? = some fn) (hb : fn.body = some c)
    (h : W P c (fun e env' M' => (e = .norm ∨ e = .ret) ∧ ∃ vs, resE P env' M' fn.results.toList = some vs ∧ (oneOr vs).lev0 = true ∧ Post (oneOr vs) M'.leave) (args ++ List.replicate (fn.ntmps - args.length) (.tup [])) M.enter) : AC P f args M Post := by
  intro base μ w cargs hR hv
  have hl := VRs_length hv
  have hlen : cargs.size = args.length := by simpa using hl
  have hd : M.enter.depth = M.depth + 1 := Mem.depth_enter
  refine calls_of_wp hf hb ?_
  have henv : EnvR μ M.enter.depth (args ++ List.replicate (fn.ntmps - args.length) (.tup [])) { tmps := cargs ++ Array.replicate (fn.ntmps - cargs.size) undef, defers := [] } := by
    unfold EnvR
    simp only [Array.toList_append, Array.toList_replicate]
    rw [hlen, hd]
    exact VRs_append (VRs_lim (by omega) hv) (VRs_replicate (by simp [VR, VRs, undef]) _)
  refine wp_mono (h base μ w _ hR.enter (by rw [hd]; omega) henv) fun e a' w' hp => ?_
  have fin : ∀ env' M' μ', EnvR μ' M.enter.depth env' a' → a'.defers = [] → Okay base μ M.enter w μ' M' w' → ∀ vs, resE P env' M' fn.results.toList = some vs → (oneOr vs).lev0 = true → Post (oneOr vs) M'.leave →
      a'.defers = [] ∧ ∃ v, (results fn a'.tmps).run P w' = .ok v w' ∧ ∃ v' cv M'' μ'', Ending.returned v = .returned cv ∧ VR μ'' 0 v' cv ∧ Okay base μ M w μ'' M'' w' ∧ Post v' M'' := by
    intro env' M' μ' h1 h2 h3 vs hvs h4 h5
    obtain ⟨cv, hc1, hc2⟩ := run_resultsE (fn := fn) h3.r h1 hvs
    refine ⟨h2, cv, hc1, oneOr vs, _, M'.leave, μ'.cut M'.depth, rfl, ?_, ?_, h5⟩
    · refine VR_ext (d := 0) (Ext_cut ?_) (Nat.le_refl _) (VR_lev0 h4 hc2)
      rw [h3.d, hd]; omega
    · refine ⟨R.leave h3.r (by rw [h3.d, hd]; omega), h3.b, ?_, by rw [Mem.depth_leave, h3.d, hd]; omega⟩
      have e1 : Ext μ μ' M.depth := h3.e.mono (by rw [hd]; omega)
      exact e1.trans (Ext_cut (by rw [h3.d, hd]; omega))
  cases e with
  | normal =>
    obtain ⟨env', M', μ', h1, h2, h3, h4, vs, h5, h6, h7⟩ := hp
    exact fin env' M' μ' h1 h2 h3 vs h5 h6 h7
  | ret =>
    obtain ⟨env', M', μ', h1, h2, h3, h4, vs, h5, h6, h7⟩ := hp
    exact fin env' M' μ' h1 h2 h3 vs h5 h6 h7
  | exit id =>
    obtain ⟨env', M', μ', h1, h2, h3, h4, h5⟩ := hp
    rcases h4 with h | h <;> cases h
  | goto l =>
    obtain ⟨env', M', μ', h1, h2, h3, h4, h5⟩ := hp
    rcases h4 with h | h <;> cases h
  | panic ch => exact hp.elim
  | outgrown => exact hp.elim
@[go_sem] theorem resE_nil {P : Program} {env : List AV} {M : Mem} : resE P env M [] = some [] := (rfl)
@[go_sem] theorem resE_tmp {P : Program} {env : List AV} {M : Mem} {t : Tmp} {rs : List ResultVar} : resE P env M (.tmp t :: rs) = (resE P env M rs).map (env.getD t .undef :: ·) := (rfl)
end Go.Abs
