/- Two orders: a drawn region in which one operation that makes something is not ordered with one call. -/
import Derived.Test.YtlpcbfndjffpfaaAbs29
set_option linter.unusedVariables false
set_option linter.unnecessarySimpa false
set_option linter.unusedSimpArgs false
namespace Go.Abs
open Go.RowKit (Below)

/-- As orderOK, but x may stand ahead of y though both are loud. -/
def orderX (ops : Array Oper) (ls : List Nat) (x y : Nat) : List Nat → Bool
  | [] => true
  | i :: L => (L.all fun j => pairOK ops ls i j || (i == x && j == y)) && (L.all fun j => !ancB ops ops.size j i) && !ancB ops ops.size i i && !L.contains i && orderX ops ls x y L

theorem orderX_split {ops : Array Oper} {ls : List Nat} {x y i : Nat} : ∀ (L1 L2 : List Nat), orderX ops ls x y (L1 ++ i :: L2) = true → orderX ops ls x y (L1 ++ L2) = true ∧ (∀ q, q ∈ L1 → pairOK ops ls q i = true ∨ (q = x ∧ i = y)) ∧ i ∉ L1 ++ L2
  | [], L2, h => by
    simp only [List.nil_append, orderX, Bool.and_eq_true] at h
    exact ⟨h.2, fun q hq => by simp at hq, by simpa using h.1.2⟩
  | q :: L1, L2, h => by
    simp only [List.cons_append, orderX, Bool.and_eq_true] at h ⊢
    obtain ⟨⟨⟨⟨h1, h2⟩, h3⟩, h4⟩, h5⟩ := h
    obtain ⟨i1, i2, i3⟩ := orderX_split L1 L2 h5
    rw [List.all_append, Bool.and_eq_true, List.all_cons, Bool.and_eq_true] at h1 h2
    refine ⟨⟨⟨⟨⟨?_, ?_⟩, h3⟩, ?_⟩, i1⟩, fun q' hq' => ?_, ?_⟩
    · rw [List.all_append, Bool.and_eq_true]; exact ⟨h1.1, h1.2.2⟩
    · rw [List.all_append, Bool.and_eq_true]; exact ⟨h2.1, h2.2.2⟩
    · simp only [List.contains_eq_mem, List.mem_append, List.mem_cons, not_or, Bool.not_eq_true', decide_eq_false_iff_not] at h4 ⊢
      exact ⟨h4.1, h4.2.2⟩
    · simp only [List.mem_cons] at hq'
      rcases hq' with rfl | hq'
      · have := h1.2.1
        simpa using this
      · exact i2 q' hq'
    · simp only [List.contains_eq_mem, List.mem_append, List.mem_cons, not_or, Bool.not_eq_true', decide_eq_false_iff_not] at h4
      simp only [List.mem_cons, not_or]
      exact ⟨fun e => h4.2.1 e.symm, i3⟩
theorem orderX_done {ops : Array Oper} {ls : List Nat} {x y : Nat} : ∀ (L : List Nat), (x ∉ L ∨ y ∉ L) → orderX ops ls x y L = true → orderOK ops ls L = true
  | [], _, _ => rfl
  | i :: L, hxy, h => by
    simp only [orderX, orderOK, Bool.and_eq_true, List.all_eq_true] at h ⊢
    obtain ⟨⟨⟨⟨h1, h2⟩, h3⟩, h4⟩, h5⟩ := h
    refine ⟨⟨⟨⟨fun j hj => ?_, h2⟩, h3⟩, h4⟩, orderX_done L (hxy.imp (fun h hm => h (List.mem_cons_of_mem _ hm)) (fun h hm => h (List.mem_cons_of_mem _ hm))) h5⟩
    have := h1 j hj
    simp only [Bool.or_eq_true, Bool.and_eq_true, beq_iff_eq] at this
    rcases this with h | ⟨rfl, rfl⟩
    · exact h
    · rcases hxy with h | h
      · exact absurd List.mem_cons_self h
      · exact absurd (List.mem_cons_of_mem _ hj) h

theorem wpOp_step {P : Program} {hp : List Nat} {ops : Array Oper} {ls : List Nat} {Q : Exit → Act → World → Prop} {i : Nat} {o : Oper} {env : List AV} {M : Mem} {Post : AV → Mem → Prop} {K' : Act → World → Prop} (ho : ops[i]? = some o) (hst : StepA P hp ops ls i env M Post)
    {base : Nat} {μ : Mu} {a : Act} {w : World} (hR : R base μ M w) (h0 : 0 < M.depth) (he : EnvR μ M.depth env a)
    (hnext : ∀ (v : AV) (M' : Mem) (μ' : Mu) (a' : Act) (w' : World), Post v M' → Okay base μ M w μ' M' w' → EnvR μ' M.depth (putA env o.dst v) a' → a'.defers = a.defers → K' a' w') : wpOp P ops Q i K' a w := by
  unfold wpOp
  simp only [ho]
  unfold StepA at hst
  simp only [ho] at hst
  cases hw : wantedA ops o env with
  | none => simp only [hw] at hst
  | some b =>
    rw [wantedA_ok he hw]
    simp only [hw] at hst
    cases b with
    | false =>
      simp only at hst
      simp only [Bool.false_eq_true, if_false]
      exact hnext _ M μ _ w hst (Okay.refl hR) (EnvR_put he (by simp [VR, VRs, undef]) o.dst) (by cases o.dst <;> rfl)
    | true =>
      simp only at hst
      simp only [if_true]
      refine .inl ?_
      split at hst
      · refine hst base μ w a _ Q hR h0 (fun x _ => ev_ok he x) fun v cv M' μ' w' hv hokk hpost => ?_
        exact hnext _ M' μ' _ w' hpost hokk (EnvR_put (VRs_ext hokk.e (Nat.le_refl _) he) hv o.dst) (by cases o.dst <;> rfl)
      · obtain ⟨v, hv, hst⟩ := hst
        refine hv.wp base μ w a _ Q hR h0 (fun x _ => ev_ok he x) fun v' cv M' μ' w' hv' hokk hpost => ?_
        obtain ⟨rfl, rfl⟩ := hpost
        exact hnext _ M' μ' _ w' hst hokk (EnvR_put (VRs_ext hokk.e (Nat.le_refl _) he) hv' o.dst) (by cases o.dst <;> rfl)

/-- No call is quiet. -/
def noCall (ops : Array Oper) (ls : List Nat) : Bool := (List.range ops.size).all fun i => ls.contains i || match ops[i]? with | some o => !callOp o.op | none => true
theorem noCall_get {ops : Array Oper} {ls : List Nat} {i : Nat} (h : noCall ops ls = true) (hq : ls.contains i = false) (o : Oper) (ho : ops[i]? = some o) : callOp o.op = false := by
  unfold noCall at h
  rw [List.all_eq_true] at h
  have hlt : i < ops.size := by
    rcases Nat.lt_or_ge i ops.size with h | h
    · exact h
    · simp [Array.getElem?_eq_none h] at ho
  have := h i (by simpa using hlt)
  rw [hq, ho] at this
  simpa using this
theorem StepA_and {P : Program} {hp : List Nat} {ops : Array Oper} {ls : List Nat} {i : Nat} {env : List AV} {M : Mem} {A B : AV → Mem → Prop} (hq : ls.contains i = false) (hnc : ∀ o, ops[i]? = some o → callOp o.op = false) (ha : StepA P hp ops ls i env M A) (hb : StepA P hp ops ls i env M B) : StepA P hp ops ls i env M fun v M' => A v M' ∧ B v M' := by
  unfold StepA at *
  cases ho : ops[i]? with
  | none => simp [ho] at ha
  | some o =>
    simp only [ho] at ha hb ⊢
    cases hw : wantedA ops o env with
    | none => simp [hw] at ha
    | some b =>
      simp only [hw] at ha hb ⊢
      cases b with
      | false => exact ⟨ha, hb⟩
      | true =>
        simp only [hq, Bool.false_eq_true, if_false] at ha hb ⊢
        obtain ⟨v, h1, h2⟩ := ha
        obtain ⟨v', h3, h4⟩ := hb
        rcases h1 with h1 | ⟨h1, _⟩
        · rcases h3 with h3 | ⟨h3, _⟩
          · rw [h1] at h3; cases h3
            exact ⟨v, .inl h1, h2, h4⟩
          · rw [hnc o ho] at h3; cases h3
        · rw [hnc o ho] at h1; cases h1

theorem AS_any2 {P : Program} {hp : List Nat} {ops : Array Oper} {ls : List Nat} {Q : Exit → Act → World → Prop} {K : List AV → Mem → Prop} {x y : Nat} (hnoc : noCall ops ls = true) (hxy : x ≠ y) (hedge : ops.toList.all (fun o => o.after.all fun e => !Region.binds .any e || decide (e.on < ops.size)) = true)
    (hloud : ∀ z, ls.contains z = true → z = x ∨ z = y ∨ ancB ops ops.size x z = true) :
    ∀ (fuel : Nat) (LA LB : List Nat) (listed : Array Bool) (env : List AV) (M : Mem), LA.length ≤ fuel → LB.length ≤ fuel → listed.size = ops.size → (∀ i, i ∈ LA ↔ i < ops.size ∧ listed.getD i false = false) → (∀ i, i ∈ LB ↔ i < ops.size ∧ listed.getD i false = false) → x ∈ LA → y ∈ LA →
    orderX ops ls x y LA = true → orderX ops ls y x LB = true →
    (∀ k o, ops[k]? = some o → listed.getD k false = true → ∀ e, e ∈ o.after → Region.binds .any e = true → listed.getD e.on false = true) →
    AS P hp ops true ls LA [] K env M → AS P hp ops true ls LB [] K env M → ∀ (base : Nat) (μ : Mu) (a : Act) (w : World), R base μ M w → 0 < M.depth → EnvR μ M.depth env a →
    (∀ env' M' μ' a' w', EnvR μ' M.depth env' a' → a'.defers = a.defers → Okay base μ M w μ' M' w' → K env' M' → Q .normal a' w') → wpAny P .any ops Q fuel listed a w := by
  intro fuel
  induction fuel with
  | zero =>
    intro LA LB listed env M hfu hfu2 hsz hLA hLB hx hy hokA hokB hdc hA hB base μ a w hR h0 he hQ
    have hnil : LA = [] := List.eq_nil_of_length_eq_zero (by omega)
    subst hnil; cases hx
  | succ fuel ih =>
    intro LA LB listed env M hfu hfu2 hsz hLA hLB hx hy hokA hokB hdc hA hB base μ a w hR h0 he hQ
    refine ⟨fun hnil => ?_, fun i hi => ?_⟩
    · cases LA with
      | nil => cases hx
      | cons j L =>
        exfalso
        obtain ⟨hj1, hj2⟩ := (hLA j).1 (by simp)
        simp only [orderX, Bool.and_eq_true] at hokA
        obtain ⟨⟨⟨⟨_, h2⟩, h3⟩, _⟩, _⟩ := hokA
        unfold Region.ready at hnil
        rw [List.filter_eq_nil_iff] at hnil
        refine hnil j (by simpa using hj1) ?_
        simp only [Bool.and_eq_true, Bool.not_eq_true']
        refine ⟨by rw [getD_bool (by omega)]; exact hj2, ?_⟩
        have ho : ops[j]? = some ops[j] := by simp [hj1]
        rw [ho]
        simp only [Option.map_some, Option.getD_some, Array.all_eq_true', Bool.or_eq_true, Bool.not_eq_true']
        intro e hee
        cases hb : Region.binds .any e with
        | false => exact .inl rfl
        | true =>
          right
          have hlt : e.on < ops.size := by
            rw [List.all_eq_true] at hedge
            have := hedge ops[j] (by simp)
            rw [Array.all_eq_true'] at this
            have := this e hee
            simpa [hb] using this
          cases hl : listed.getD e.on false with
          | true => rfl
          | false =>
            exfalso
            have hmem := (hLA e.on).2 ⟨hlt, hl⟩
            have hanc : ancB ops ops.size e.on j = true := by
              obtain ⟨n, hn⟩ : ∃ n, ops.size = n + 1 := ⟨ops.size - 1, by omega⟩
              rw [hn]
              simp only [ancB, ho, Array.any_eq_true', Bool.and_eq_true, Bool.or_eq_true, beq_iff_eq]
              exact ⟨e, hee, hb, .inl rfl⟩
            simp only [List.mem_cons] at hmem
            rcases hmem with heq | hmem
            · rw [heq] at hanc; rw [hanc] at h3; simp at h3
            · rw [List.all_eq_true] at h2
              have := h2 e.on hmem
              rw [hanc] at this; simp at this
    · obtain ⟨hun, o, ho, hall⟩ := mem_ready.1 hi
      have hlt : i < ops.size := by
        rcases Nat.lt_or_ge i ops.size with h | h
        · exact h
        · simp [Array.getElem?_eq_none h] at ho
      have hun' : listed.getD i false = false := by rw [← getD_bool (by omega)]; exact hun
      have hpred : ∀ e, e ∈ o.after → Region.binds .any e = true → listed.getD e.on false = true := fun e hee hb => hall e hee hb
      have hset : ∀ k, (listed.setIfInBounds i true).getD k false = if k = i then true else listed.getD k false := by
        intro k
        simp only [Array.getD_eq_getD_getElem?, Array.getElem?_setIfInBounds]
        by_cases hk : i = k
        · subst hk; simp [hsz, hlt]
        · simp [hk, Ne.symm hk]
      have hdc' : ∀ k ok, ops[k]? = some ok → (listed.setIfInBounds i true).getD k false = true → ∀ e, e ∈ ok.after → Region.binds .any e = true → (listed.setIfInBounds i true).getD e.on false = true := by
        intro k ok hk hl e hke hb
        rw [hset] at hl ⊢
        by_cases hk' : k = i
        · subst hk'
          rw [ho] at hk; cases hk
          have := hpred e hke hb
          split
          · rfl
          · exact this
        · rw [if_neg hk'] at hl
          have := hdc k ok hk hl e hke hb
          split
          · rfl
          · exact this
      have hmem' : ∀ (L1 L2 : List Nat), (∀ k, k ∈ L1 ++ i :: L2 ↔ k < ops.size ∧ listed.getD k false = false) → i ∉ L1 ++ L2 → ∀ k, k ∈ L1 ++ L2 ↔ k < ops.size ∧ (listed.setIfInBounds i true).getD k false = false := by
        intro L1 L2 hL o3 k
        rw [hset]
        have := hL k
        simp only [List.mem_append, List.mem_cons] at this ⊢
        by_cases hk : k = i
        · subst hk
          simp only [if_true]
          simp only [List.mem_append, not_or] at o3
          exact ⟨fun hh => absurd hh (by simpa using o3), fun hh => by cases hh.2⟩
        · rw [if_neg hk]
          rw [← this]
          simp [hk]
      have hquiet : ∀ (L1 L2 : List Nat) (x' y' : Nat), (∀ k, k ∈ L1 ++ i :: L2 ↔ k < ops.size ∧ listed.getD k false = false) → (∀ q, q ∈ L1 → pairOK ops ls q i = true ∨ (q = x' ∧ i = y')) → i ≠ y' → ∀ q oq, q ∈ L1 → ops[q]? = some oq → ls.contains q = false ∧ oq.apart ops o = true ∧ ancB ops ops.size q i = false := by
        intro L1 L2 x' y' hL o2 hne q oq hq hoq
        have hp : pairOK ops ls q i = true := (o2 q hq).elim id fun h => absurd h.2 hne
        have hnanc : ancB ops ops.size q i = false := by
          cases hc : ancB ops ops.size q i with
          | false => rfl
          | true =>
            have h1 := anc_listed hdc ops.size i o ho hpred hc
            have h2 := ((hL q).1 (by simp [hq])).2
            rw [h1] at h2; cases h2
        unfold pairOK at hp
        rw [hnanc, Bool.false_or, hoq, ho, Bool.and_eq_true] at hp
        exact ⟨by simpa using hp.1, hp.2, hnanc⟩
      -- one order goes on alone
      have alone : ∀ (L : List Nat) (x' y' : Nat), i = x' → x' ≠ y' → L.length ≤ fuel + 1 → (∀ k, k ∈ L ↔ k < ops.size ∧ listed.getD k false = false) → orderX ops ls x' y' L = true → AS P hp ops true ls L [] K env M → wpOp P ops Q i (wpAny P .any ops Q fuel (listed.setIfInBounds i true)) a w := by
        intro L x' y' hix hne hfl hL hok has
        have himem := (hL i).2 ⟨hlt, hun'⟩
        obtain ⟨L1, L2, rfl⟩ := List.append_of_mem himem
        obtain ⟨o1, o2, o3⟩ := orderX_split L1 L2 hok
        have hst := AS_take ho L1 L2 [] env M (hquiet L1 L2 x' y' hL o2 (by omega)) has
        refine wpOp_step ho hst hR h0 he fun v M' μ' a' w' hpost hokk hee hdf => ?_
        exact AS_any hedge fuel (L1 ++ L2) (listed.setIfInBounds i true) _ M' (by simp at hfl ⊢; omega) (by simp [hsz]) (hmem' L1 L2 hL o3) (orderX_done _ (.inl (by rw [← hix]; exact o3)) o1) hdc' hpost.2 base μ' a' w' hokk.r (by rw [hokk.d]; exact h0) (by rw [hokk.d]; exact hee)
          (fun env2 M2 μ2 a2 w2 g1 g2 g3 g4 => hQ env2 M2 μ2 a2 w2 (by rw [← hokk.d]; exact g1) (by rw [g2, hdf]) (hokk.trans g3) g4)
      by_cases hix : i = x
      · exact alone LA x y hix hxy hfu hLA hokA hA
      by_cases hiy : i = y
      · exact alone LB y x hiy (Ne.symm hxy) hfu2 hLB hokB hB
      have hiq : ls.contains i = false := by
        cases hc : ls.contains i with
        | false => rfl
        | true =>
          rcases hloud i hc with h | h | h
          · exact absurd h hix
          · exact absurd h hiy
          · have h1 := anc_listed hdc ops.size i o ho hpred h
            have h2 := ((hLA x).1 hx).2
            rw [h1] at h2; cases h2
      have himA := (hLA i).2 ⟨hlt, hun'⟩
      have himB := (hLB i).2 ⟨hlt, hun'⟩
      obtain ⟨A1, A2, rfl⟩ := List.append_of_mem himA
      obtain ⟨B1, B2, rfl⟩ := List.append_of_mem himB
      obtain ⟨a1, a2, a3⟩ := orderX_split A1 A2 hokA
      obtain ⟨b1, b2, b3⟩ := orderX_split B1 B2 hokB
      have sA := AS_take ho A1 A2 [] env M (hquiet A1 A2 x y hLA a2 hiy) hA
      have sB := AS_take ho B1 B2 [] env M (hquiet B1 B2 y x hLB b2 hix) hB
      refine wpOp_step ho (StepA_and hiq (noCall_get hnoc hiq) sA sB) hR h0 he fun v M' μ' a' w' hpost hokk hee hdf => ?_
      have hx' : x ∈ A1 ++ A2 := by
        simp only [List.mem_append, List.mem_cons] at hx ⊢
        rcases hx with h | h | h
        · exact .inl h
        · exact absurd h.symm hix
        · exact .inr h
      have hy' : y ∈ A1 ++ A2 := by
        simp only [List.mem_append, List.mem_cons] at hy ⊢
        rcases hy with h | h | h
        · exact .inl h
        · exact absurd h.symm hiy
        · exact .inr h
      exact ih (A1 ++ A2) (B1 ++ B2) (listed.setIfInBounds i true) _ M' (by simp at hfu ⊢; omega) (by simp at hfu2 ⊢; omega) (by simp [hsz]) (hmem' A1 A2 hLA a3) (hmem' B1 B2 hLB b3) hx' hy' a1 b1 hdc' hpost.1.2 hpost.2.2 base μ' a' w' hokk.r (by rw [hokk.d]; exact h0) (by rw [hokk.d]; exact hee)
        (fun env2 M2 μ2 a2 w2 g1 g2 g3 g4 => hQ env2 M2 μ2 a2 w2 (by rw [← hokk.d]; exact g1) (by rw [g2, hdf]) (hokk.trans g3) g4)

/-! ### by the table -/
def fastX (ops : Array Oper) (T ls : List Nat) (x y : Nat) : List Nat → Bool
  | [] => true
  | i :: L => decide (i < T.length) && (L.all fun j => decide (j < T.length) && (fastPair ops T ls i j || (i == x && j == y))) && (L.all fun j => !(T.getD i 0).testBit j) && !(T.getD i 0).testBit i && !L.contains i && fastX ops T ls x y L
theorem orderX_of_fast {ops : Array Oper} {T ls : List Nat} {x y : Nat} (hT : ancTab ops.toList [] = some T) : ∀ (L : List Nat), fastX ops T ls x y L = true → orderX ops ls x y L = true
  | [], h => rfl
  | i :: L, h => by
    have hok := ancTab_ok (ops := ops) ops.toList [] T (by simp) (Nat.zero_le _) (fun j hj => by simp at hj) hT
    have hbit : ∀ j, j < T.length → ∀ i, (T.getD j 0).testBit i = ancB ops ops.size i j := fun j hj i => Bool.eq_iff_iff.2 (hok.1 j hj ops.size i (by rw [← hok.2]; exact hj))
    simp only [fastX, Bool.and_eq_true, List.all_eq_true, decide_eq_true_eq] at h
    obtain ⟨⟨⟨⟨⟨h0, h1⟩, h2⟩, h3⟩, h4⟩, h5⟩ := h
    simp only [orderX, Bool.and_eq_true, List.all_eq_true]
    refine ⟨⟨⟨⟨fun j hj => ?_, fun j hj => ?_⟩, ?_⟩, h4⟩, orderX_of_fast hT L h5⟩
    · have := (h1 j hj).2
      unfold fastPair at this
      unfold pairOK
      rw [← hbit j (h1 j hj).1 i]; exact this
    · rw [← hbit i h0 j]; exact h2 j hj
    · rw [← hbit i h0 i]; exact h3
def loudX (T ls : List Nat) (x y : Nat) : Bool := ls.all fun z => z == x || z == y || (decide (z < T.length) && (T.getD z 0).testBit x)

theorem W_regionX {P : Program} {Q : Ex → List AV → Mem → Prop} {env : List AV} {M : Mem} {id : Nat} {ops : Array Oper} (hp ls LA LB T : List Nat) (x y : Nat) (hm : P.follows .mixedOrders = true) (hT : ancTab ops.toList [] = some T) (hA : fastX ops T ls x y LA = true) (hB : fastX ops T ls y x LB = true)
    (hinA : allIn ops LA = true) (hinB : allIn ops LB = true) (hl : loudX T ls x y = true) (hnoc : noCall ops ls = true) (hxy : x ≠ y) (hx : x ∈ LA) (hy : y ∈ LA)
    (h1 : AD P hp ops ls (listed ops LA) [] (Q .norm) env M) (h2 : AD P hp ops ls (listed ops LB) [] (Q .norm) env M) : W P (.region id ops true) Q env M := fun base μ w a hR h0 he => by
  have hok := ancTab_ok (ops := ops) ops.toList [] T (by simp) (Nat.zero_le _) (fun j hj => by simp at hj) hT
  have get : ∀ L, allIn ops L = true → L.length ≤ ops.size ∧ (∀ i, i ∈ L ↔ i < ops.size) ∧ ops.toList.all (fun o => o.after.all fun e => !Region.binds .any e || decide (e.on < ops.size)) = true := by
    intro L hin
    unfold allIn at hin
    simp only [Bool.and_eq_true] at hin
    obtain ⟨⟨⟨hi0, hi1⟩, hi2⟩, hi3⟩ := hin
    rw [List.all_eq_true] at hi1 hi2
    exact ⟨by simpa using hi0, fun i => ⟨fun h => by simpa using hi1 i h, fun h => by simpa using hi2 i (by simpa using h)⟩, hi3⟩
  obtain ⟨lA, mA, hedge⟩ := get LA hinA
  obtain ⟨lB, mB, _⟩ := get LB hinB
  have hR' : R base μ M { w with drawn := w.drawn + 1 } := hR.congr rfl
  have hrep : ∀ i, (Array.replicate ops.size false).getD i false = false := by
    intro i
    simp only [Array.getD_eq_getD_getElem?, Array.getElem?_replicate]
    split <;> rfl
  have hlo : ∀ z, ls.contains z = true → z = x ∨ z = y ∨ ancB ops ops.size x z = true := by
    intro z hz
    unfold loudX at hl
    rw [List.all_eq_true] at hl
    have := hl z (by simpa using hz)
    simp only [Bool.or_eq_true, beq_iff_eq, Bool.and_eq_true, decide_eq_true_eq] at this
    rcases this with (h | h) | ⟨h3, h4⟩
    · exact .inl h
    · exact .inr (.inl h)
    · exact .inr (.inr ((hok.1 z h3 ops.size x (by rw [← hok.2]; exact h3)).1 h4))
  have toAS : ∀ L, (∀ i, i ∈ L ↔ i < ops.size) → AD P hp ops ls (listed ops L) [] (Q .norm) env M → AS P hp ops true ls L [] (Q .norm) env M := by
    intro L hL h
    have := AD_AS (listed ops L) listed_mem [] [] (fun x hx => by cases hx) env M h
    rw [listed_map fun i hi => (hL i).1 hi] at this
    exact this
  refine wp_region_any hm (AS_any2 hnoc hxy hedge hlo ops.size LA LB (Array.replicate ops.size false) env M lA lB (by simp) (fun i => by rw [mA, hrep]; simp) (fun i => by rw [mB, hrep]; simp) hx hy (orderX_of_fast hT LA hA) (orderX_of_fast hT LB hB) (fun k o hk hl => by rw [hrep] at hl; cases hl) (toAS LA mA h1) (toAS LB mB h2) base μ a { w with drawn := w.drawn + 1 } hR' h0 he ?_)
  intro env' M' μ' a' w' g1 g2 g3 g4
  exact ⟨env', M', μ', g1, g2, ⟨g3.r, (Below.drew (Below.refl _ _)).trans g3.b, g3.e, g3.d⟩, g4⟩
end Go.Abs
