/- Orders of a region's operations, checked fast; the walk through a region of any order, made for rewriting. -/
import Derived.Test.YtlpcbfndjffpfaaAbs19
set_option linter.unusedVariables false
set_option linter.unnecessarySimpa false
set_option linter.unusedSimpArgs false
namespace Go.Abs
open Go.RowKit (Below)

/-- Bit i of the j-th number: does operation j wait for operation i? -/
def ancRow (T : List Nat) : List Edge → Option Nat
  | [] => some 0
  | e :: es =>
    match ancRow T es with
    | none => none
    | some r => if Region.binds .any e = true then (if e.on < T.length then some (r ||| (1 <<< e.on) ||| T.getD e.on 0) else none) else some r
def ancTab : List Oper → List Nat → Option (List Nat)
  | [], T => some T
  | o :: os, T => match ancRow T o.after.toList with | some r => ancTab os (T ++ [r]) | none => none

theorem ancRow_bit {T : List Nat} {i : Nat} : ∀ {es : List Edge} {r : Nat}, ancRow T es = some r → (r.testBit i = true ↔ ∃ e, e ∈ es ∧ Region.binds .any e = true ∧ e.on < T.length ∧ (e.on = i ∨ (T.getD e.on 0).testBit i = true))
  | [], r, h => by cases h; simp
  | e :: es, r, h => by
    simp only [ancRow] at h
    split at h
    · cases h
    · rename_i r' hr
      have ih := ancRow_bit (i := i) hr
      split at h
      · rename_i hb
        split at h
        · rename_i hl
          cases h
          simp only [Nat.testBit_or, Bool.or_eq_true, ih, Nat.one_shiftLeft, Nat.testBit_two_pow, decide_eq_true_eq, List.mem_cons]
          constructor
          · rintro ((⟨e', h1, h2⟩ | h1) | h1)
            · exact ⟨e', .inr h1, h2⟩
            · exact ⟨e, .inl rfl, hb, hl, .inl h1⟩
            · exact ⟨e, .inl rfl, hb, hl, .inr h1⟩
          · rintro ⟨e', rfl | h1, h2, h3, h4⟩
            · rcases h4 with h4 | h4
              · exact .inl (.inr h4)
              · exact .inr h4
            · exact .inl (.inl ⟨e', h1, h2, h3, h4⟩)
        · cases h
      · rename_i hb
        cases h
        rw [ih]
        constructor
        · rintro ⟨e', h1, h2⟩; exact ⟨e', List.mem_cons_of_mem _ h1, h2⟩
        · rintro ⟨e', h1, h2⟩
          rcases List.mem_cons.1 h1 with rfl | h1
          · exact absurd h2.1 hb
          · exact ⟨e', h1, h2⟩
theorem ancRow_lt {T : List Nat} : ∀ {es : List Edge} {r : Nat}, ancRow T es = some r → ∀ e, e ∈ es → Region.binds .any e = true → e.on < T.length
  | [], r, h, e, he, hb => by cases he
  | e' :: es, r, h, e, he, hb => by
    simp only [ancRow] at h
    split at h
    · cases h
    · rename_i r' hr
      rcases List.mem_cons.1 he with rfl | he
      · rw [if_pos hb] at h
        split at h
        · assumption
        · cases h
      · exact ancRow_lt hr e he hb

def TabOK (ops : Array Oper) (T : List Nat) : Prop := ∀ j, j < T.length → ∀ n i, j < n → ((T.getD j 0).testBit i = true ↔ ancB ops n i j = true)

theorem ancTab_ok {ops : Array Oper} : ∀ (os : List Oper) (T T' : List Nat), ops.toList.drop T.length = os → T.length ≤ ops.size → TabOK ops T → ancTab os T = some T' → TabOK ops T' ∧ T'.length = ops.size
  | [], T, T', hd, hle, hT, h => by
    cases h
    refine ⟨hT, ?_⟩
    have := congrArg List.length hd
    simp at this; omega
  | o :: os, T, T', hd, hle, hT, h => by
    simp only [ancTab] at h
    split at h
    · rename_i r hr
      have hlt : T.length < ops.size := by
        have := congrArg List.length hd
        simp at this; omega
      have ho : ops[T.length]? = some o := by
        have h1 : (ops.toList.drop T.length)[0]? = some o := by rw [hd]; rfl
        rw [List.getElem?_drop] at h1
        simpa using h1
      refine ancTab_ok os (T ++ [r]) T' ?_ (by simp; omega) ?_ h
      · have h1 : ops.toList.drop (T.length + 1) = (ops.toList.drop T.length).drop 1 := by rw [List.drop_drop]
        rw [List.length_append]
        show ops.toList.drop (T.length + 1) = os
        rw [h1, hd]; rfl
      · intro j hj n i hn
        rcases Nat.lt_or_ge j T.length with hjl | hjl
        · have : (T ++ [r]).getD j 0 = T.getD j 0 := by simp [List.getD, List.getElem?_append_left hjl]
          rw [this]
          exact hT j hjl n i hn
        · have hje : j = T.length := by simp at hj; omega
          subst hje
          have : (T ++ [r]).getD T.length 0 = r := by simp [List.getD]
          rw [this]
          obtain ⟨n, rfl⟩ : ∃ m, n = m + 1 := ⟨n - 1, by omega⟩
          rw [ancRow_bit hr]
          simp only [ancB, ho, Array.any_eq_true', Bool.and_eq_true, Bool.or_eq_true, beq_iff_eq]
          constructor
          · rintro ⟨e, h1, h2, h3, h4⟩
            refine ⟨e, by simpa using h1, h2, h4.imp id fun h5 => ?_⟩
            exact (hT e.on h3 n i (by omega)).1 h5
          · rintro ⟨e, h1, h2, h4⟩
            have h3 := ancRow_lt hr e (by simpa using h1) h2
            exact ⟨e, by simpa using h1, h2, h3, h4.imp id fun h5 => (hT e.on h3 n i (by omega)).2 h5⟩
    · cases h

def fastPair (ops : Array Oper) (T : List Nat) (ls : List Nat) (i j : Nat) : Bool :=
  (T.getD j 0).testBit i || (!ls.contains i && match ops[i]?, ops[j]? with | some x, some y => x.apart ops y | _, _ => false)
def fastOK (ops : Array Oper) (T ls : List Nat) : List Nat → Bool
  | [] => true
  | i :: L => decide (i < T.length) && (L.all fun j => decide (j < T.length) && fastPair ops T ls i j) && (L.all fun j => !(T.getD i 0).testBit j) && !(T.getD i 0).testBit i && !L.contains i && fastOK ops T ls L

theorem orderOK_of_fast {ops : Array Oper} {T ls : List Nat} (hT : ancTab ops.toList [] = some T) : ∀ (L : List Nat), fastOK ops T ls L = true → orderOK ops ls L = true
  | [], h => rfl
  | i :: L, h => by
    have hok := ancTab_ok (ops := ops) ops.toList [] T (by simp) (Nat.zero_le _) (fun j hj => by simp at hj) hT
    have hbit : ∀ j, j < T.length → ∀ i, (T.getD j 0).testBit i = ancB ops ops.size i j := fun j hj i => Bool.eq_iff_iff.2 (hok.1 j hj ops.size i (by rw [← hok.2]; exact hj))
    simp only [fastOK, Bool.and_eq_true, List.all_eq_true, decide_eq_true_eq] at h
    obtain ⟨⟨⟨⟨⟨h0, h1⟩, h2⟩, h3⟩, h4⟩, h5⟩ := h
    simp only [orderOK, Bool.and_eq_true, List.all_eq_true]
    refine ⟨⟨⟨⟨fun j hj => ?_, fun j hj => ?_⟩, ?_⟩, h4⟩, orderOK_of_fast hT L h5⟩
    · have := (h1 j hj).2
      unfold fastPair at this
      unfold pairOK
      rw [← hbit j (h1 j hj).1 i]; exact this
    · rw [← hbit i h0 j]; exact h2 j hj
    · rw [← hbit i h0 i]; exact h3

/-! ### the walk -/
def histOK (ops : Array Oper) (i : Nat) (M : Mem) : List (Nat × (Mem → Prop)) → Prop
  | [] => True
  | h :: t => (ancB ops ops.size h.1 i = false → h.2 M) ∧ histOK ops i M t
theorem histOK_mem {ops : Array Oper} {i : Nat} {M : Mem} : ∀ {l : List (Nat × (Mem → Prop))}, histOK ops i M l → ∀ h, h ∈ l → ancB ops ops.size h.1 i = false → h.2 M
  | [], h, x, hx, _ => by cases hx
  | y :: l, h, x, hx, ha => by
    rcases List.mem_cons.1 hx with rfl | hx
    · exact h.1 ha
    · exact histOK_mem h.2 x hx ha

def AD (P : Program) (hp : List Nat) (ops : Array Oper) (ls : List Nat) : List (Nat × Oper) → List (Nat × (Mem → Prop)) → (List AV → Mem → Prop) → List AV → Mem → Prop
  | [], _, K, env, M => K env M
  | (i, o) :: l, hist, K, env, M =>
    match wantedA ops o env with
    | none => False
    | some false => AD P hp ops ls l hist K (putA env o.dst (.tup [])) M
    | some true =>
      if ls.contains i = true then OpW P o env M fun v M' => histOK ops i M' hist ∧ AD P hp ops ls l hist K (putA env o.dst v) M'
      else if pureOp o.op = true then ∃ v, opA P hp o env M = some (v, M) ∧ AD P hp ops ls l hist K (putA env o.dst v) M
      else ∃ v p, (∀ M', p M' → Qt P hp o env M' v) ∧ p M ∧ AD P hp ops ls l ((i, p) :: hist) K (putA env o.dst v) M

def Weaker (h1 h2 : List (Nat × (Mem → Prop))) : Prop := ∀ x, x ∈ h2 → (∀ M, x.2 M) ∨ ∃ y, y ∈ h1 ∧ y.1 = x.1 ∧ ∀ M, y.2 M → x.2 M

theorem AD_AS {P : Program} {hp : List Nat} {ops : Array Oper} {ls : List Nat} {K : List AV → Mem → Prop} : ∀ (l : List (Nat × Oper)) (hl : ∀ p, p ∈ l → ops[p.1]? = some p.2) (h1 h2 : List (Nat × (Mem → Prop))) (hw : Weaker h1 h2) (env : List AV) (M : Mem),
    AD P hp ops ls l h1 K env M → AS P hp ops true ls (l.map (·.1)) h2 K env M
  | [], hl, h1, h2, hw, env, M, h => h
  | (i, o) :: l, hl, h1, h2, hw, env, M, h => by
    have ho : ops[i]? = some o := hl (i, o) (List.mem_cons_self)
    have hl' : ∀ p, p ∈ l → ops[p.1]? = some p.2 := fun p hp => hl p (List.mem_cons_of_mem _ hp)
    simp only [List.map_cons, AS, ho]
    simp only [AD] at h
    cases hwd : wantedA ops o env with
    | none => simp only [hwd] at h
    | some b =>
      simp only [hwd] at h
      cases b with
      | false => exact AD_AS l hl' h1 h2 hw _ _ h
      | true =>
        simp only at h ⊢
        split
        · rename_i hc
          rw [if_pos hc] at h
          refine h.mono fun v M' hq => ⟨fun x hx ha => ?_, AD_AS l hl' h1 h2 hw _ _ hq.2⟩
          rcases hw x hx with h5 | ⟨y, hy, h3, h4⟩
          · exact h5 _
          · exact h4 _ (histOK_mem hq.1 y hy (by rw [h3]; exact ha))
        · rename_i hc
          rw [if_neg hc] at h
          split at h
          · rename_i hpu
            obtain ⟨v, hv, hk⟩ := h
            refine ⟨v, .inl hv, ?_⟩
            simp only [hpu, Bool.not_true, Bool.and_false, Bool.false_eq_true, if_false]
            exact AD_AS l hl' h1 h2 hw _ _ hk
          · rename_i hpu
            obtain ⟨v, p, hv, hpm, hk⟩ := h
            refine ⟨v, hv M hpm, ?_⟩
            simp only [Bool.not_eq_true] at hpu
            simp only [hpu, Bool.not_false, Bool.and_true, if_true]
            refine AD_AS l hl' _ _ (fun x hx => ?_) _ _ hk
            rcases List.mem_cons.1 hx with rfl | hx
            · exact .inr ⟨_, List.mem_cons_self, rfl, hv⟩
            · rcases hw x hx with h5 | ⟨y, hy, h3⟩
              · exact .inl h5
              · exact .inr ⟨y, List.mem_cons_of_mem _ hy, h3⟩

def listed (ops : Array Oper) (L : List Nat) : List (Nat × Oper) := L.filterMap fun i => (ops[i]?).map fun o => (i, o)
theorem listed_mem {ops : Array Oper} {L : List Nat} : ∀ p, p ∈ listed ops L → ops[p.1]? = some p.2 := by
  intro p hp
  simp only [listed, List.mem_filterMap, Option.map_eq_some_iff] at hp
  obtain ⟨i, _, o, ho, rfl⟩ := hp
  exact ho
theorem listed_map {ops : Array Oper} : ∀ {L : List Nat}, (∀ i, i ∈ L → i < ops.size) → (listed ops L).map (·.1) = L
  | [], h => rfl
  | i :: L, h => by
    have hi : i < ops.size := h i List.mem_cons_self
    have ho : ops[i]? = some ops[i] := Array.getElem?_eq_getElem hi
    simp only [listed, List.filterMap_cons, ho, Option.map_some, List.map_cons, List.cons.injEq, true_and]
    exact listed_map fun j hj => h j (List.mem_cons_of_mem _ hj)

theorem W_regionD {P : Program} {Q : Ex → List AV → Mem → Prop} {env : List AV} {M : Mem} {id : Nat} {ops : Array Oper} (hp ls L T : List Nat) (hm : P.follows .mixedOrders = true) (hT : ancTab ops.toList [] = some T) (hok : fastOK ops T ls L = true) (hin : allIn ops L = true)
    (h : AD P hp ops ls (listed ops L) [] (Q .norm) env M) : W P (.region id ops true) Q env M := by
  refine W_region_draw (hp := hp) (ls := ls) (L := L) hm hin (orderOK_of_fast hT L hok) ?_
  have hi : ∀ i, i ∈ L → i < ops.size := by
    unfold allIn at hin
    simp only [Bool.and_eq_true, List.all_eq_true, decide_eq_true_eq] at hin
    exact hin.1.1.2
  have := AD_AS (listed ops L) listed_mem [] [] (fun x hx => by cases hx) env M h
  rw [listed_map hi] at this
  exact this

theorem histOK_weaker {ops : Array Oper} {i : Nat} {M : Mem} {h1 h2 : List (Nat × (Mem → Prop))} (hw : Weaker h1 h2) (h : histOK ops i M h1) : histOK ops i M h2 := by
  induction h2 with
  | nil => trivial
  | cons x h2 ih =>
    refine ⟨fun ha => ?_, ih fun y hy => hw y (List.mem_cons_of_mem _ hy)⟩
    rcases hw x List.mem_cons_self with h5 | ⟨y, hy, h3, h4⟩
    · exact h5 _
    · exact h4 _ (histOK_mem h y hy (by rw [h3]; exact ha))
theorem AD_weaker {P : Program} {hp : List Nat} {ops : Array Oper} {ls : List Nat} {K : List AV → Mem → Prop} : ∀ (l : List (Nat × Oper)) (h1 h2 : List (Nat × (Mem → Prop))) (hw : Weaker h1 h2) (env : List AV) (M : Mem), AD P hp ops ls l h1 K env M → AD P hp ops ls l h2 K env M
  | [], h1, h2, hw, env, M, h => h
  | (i, o) :: l, h1, h2, hw, env, M, h => by
    simp only [AD] at h ⊢
    cases hwd : wantedA ops o env with
    | none => simp only [hwd] at h
    | some b =>
      simp only [hwd] at h
      cases b with
      | false => exact AD_weaker l h1 h2 hw _ _ h
      | true =>
        simp only at h ⊢
        split
        · rename_i hc
          rw [if_pos hc] at h
          exact h.mono fun v M' hq => ⟨histOK_weaker hw hq.1, AD_weaker l h1 h2 hw _ _ hq.2⟩
        · rename_i hc
          rw [if_neg hc] at h
          split at h
          · obtain ⟨v, hv, hk⟩ := h
            rename_i hpu
            rw [if_pos hpu]
            exact ⟨v, hv, AD_weaker l h1 h2 hw _ _ hk⟩
          · obtain ⟨v, p, hv, hpm, hk⟩ := h
            rename_i hpu
            rw [if_neg hpu]
            refine ⟨v, p, hv, hpm, AD_weaker l _ _ (fun x hx => ?_) _ _ hk⟩
            rcases List.mem_cons.1 hx with rfl | hx
            · exact .inr ⟨_, List.mem_cons_self, rfl, fun _ h => h⟩
            · rcases hw x hx with h5 | ⟨y, hy, h3⟩
              · exact .inl h5
              · exact .inr ⟨y, List.mem_cons_of_mem _ hy, h3⟩

def goD (X : Option AV) (P : Program) (hp : List Nat) (ops : Array Oper) (ls : List Nat) (l : List (Nat × Oper)) (hist : List (Nat × (Mem → Prop))) (K : List AV → Mem → Prop) (env : List AV) (M : Mem) (dst : Option Tmp) : Prop :=
  match X with | some v => AD P hp ops ls l hist K (putA env dst v) M | none => False
section
variable {P : Program} {hp : List Nat} {ops : Array Oper} {ls : List Nat} {i : Nat} {l : List (Nat × Oper)} {hist : List (Nat × (Mem → Prop))} {K : List AV → Mem → Prop} {env : List AV} {M M' : Mem} {d : Option Tmp} {ty : TypeId} {pos : String} {af : Array Edge} {v x y : AV}
@[go_sem] theorem goD_some : goD (some v) P hp ops ls l hist K env M d = AD P hp ops ls l hist K (putA env d v) M := (rfl)
@[go_sem] theorem AD_nil : AD P hp ops ls [] hist K env M = K env M := (rfl)
theorem AD_pure {o : Op} (hc : ls.contains i = false) (hpu : pureOp o = true) {X : Option AV} (hX : opA P hp ⟨d, o, ty, pos, af, none⟩ env M = pureV X M) : AD P hp ops ls ((i, ⟨d, o, ty, pos, af, none⟩) :: l) hist K env M = goD X P hp ops ls l hist K env M d := by
  simp only [AD, wantedA, hpu, if_true, hX]
  rw [if_neg (by simp only [hc, Bool.false_eq_true, not_false_eq_true])]
  cases X <;> simp [pureV, goD]
@[go_sem] theorem AD_guard {o : Op} {j : Nat} {b : Bool} : AD P hp ops ls ((i, ⟨d, o, ty, pos, af, some (j, b)⟩) :: l) hist K env M =
    match wantedA ops ⟨d, o, ty, pos, af, some (j, b)⟩ env with
    | none => False
    | some false => AD P hp ops ls l hist K (putA env d (.tup [])) M
    | some true => AD P hp ops ls ((i, ⟨d, o, ty, pos, af, none⟩) :: l) hist K env M := by
  simp only [AD]
  cases wantedA ops ⟨d, o, ty, pos, af, some (j, b)⟩ env with
  | none => rfl
  | some c =>
    cases c
    · rfl
    · simp only [wantedA]
      rfl
@[go_sem] theorem AD_move {o : Operand} (hc : ls.contains i = false) : AD P hp ops ls ((i, ⟨d, .move o, ty, pos, af, none⟩) :: l) hist K env M = AD P hp ops ls l hist K (putA env d (ev env o)) M := AD_pure hc rfl (X := some (ev env o)) rfl
@[go_sem] theorem AD_assign {o : Operand} (hc : ls.contains i = false) : AD P hp ops ls ((i, ⟨d, .assign o, ty, pos, af, none⟩) :: l) hist K env M = AD P hp ops ls l hist K (putA env d (ev env o)) M := AD_pure hc rfl (X := some (ev env o)) rfl
@[go_sem] theorem AD_pick {c a b : Operand} (hc : ls.contains i = false) : AD P hp ops ls ((i, ⟨d, .pick c a b, ty, pos, af, none⟩) :: l) hist K env M = goD (pickA (ev env c) (ev env a) (ev env b)) P hp ops ls l hist K env M d := AD_pure hc rfl (by simp only [opA, pickA]; cases ev env c <;> rfl)
@[go_sem] theorem AD_bin {op : BinOp} {t ty2 : TypeId} {x y : Operand} (hc : ls.contains i = false) : AD P hp ops ls ((i, ⟨d, .binOp op t x y ty2, ty, pos, af, none⟩) :: l) hist K env M = goD (binG P op t (isConst x) (isConst y) (ev env x) (ev env y)) P hp ops ls l hist K env M d := AD_pure hc rfl (by simp only [opA, binG]; split <;> simp_all [pureV])
@[go_sem] theorem AD_un {op : UnOp} {t : TypeId} {x : Operand} (hc : ls.contains i = false) : AD P hp ops ls ((i, ⟨d, .unOp op t x, ty, pos, af, none⟩) :: l) hist K env M = goD (unA op (ev env x)) P hp ops ls l hist K env M d := AD_pure hc rfl rfl
@[go_sem] theorem AD_nilCheck {x : Operand} (hc : ls.contains i = false) : AD P hp ops ls ((i, ⟨d, .nilCheck x, ty, pos, af, none⟩) :: l) hist K env M = goD (nilCheckA (ev env x)) P hp ops ls l hist K env M d := AD_pure hc rfl rfl
@[go_sem] theorem AD_field {t : TypeId} {x : Operand} {f : Nat} (hc : ls.contains i = false) : AD P hp ops ls ((i, ⟨d, .field t x f, ty, pos, af, none⟩) :: l) hist K env M = goD (fieldA P t (ev env x) f) P hp ops ls l hist K env M d := AD_pure hc rfl rfl
@[go_sem] theorem AD_index {t : TypeId} {x k : Operand} (hc : ls.contains i = false) : AD P hp ops ls ((i, ⟨d, .index t x k, ty, pos, af, none⟩) :: l) hist K env M = goD (indexA P t (ev env x) (ev env k)) P hp ops ls l hist K env M d := AD_pure hc rfl rfl
@[go_sem] theorem AD_extract {x : Operand} {k : Nat} (hc : ls.contains i = false) : AD P hp ops ls ((i, ⟨d, .extract x k, ty, pos, af, none⟩) :: l) hist K env M = goD (extractA (ev env x) k) P hp ops ls l hist K env M d := AD_pure hc rfl rfl
@[go_sem] theorem AD_build {t : TypeId} {ps : List (Nat × Operand)} (hc : ls.contains i = false) : AD P hp ops ls ((i, ⟨d, .build t ps.toArray, ty, pos, af, none⟩) :: l) hist K env M = goD (buildA P t (ps.map fun p => (p.1, ev env p.2))) P hp ops ls l hist K env M d := AD_pure hc rfl rfl
@[go_sem] theorem AD_makeFunc {f : Fn} {a b : List Operand} (hc : ls.contains i = false) : AD P hp ops ls ((i, ⟨d, .makeFunc f a.toArray b.toArray, ty, pos, af, none⟩) :: l) hist K env M = AD P hp ops ls l hist K (putA env d (.fn f (a.map (ev env)) (b.map (ev env)))) M := AD_pure hc rfl (X := some (.fn f (a.map (ev env)) (b.map (ev env)))) rfl
/-- A quiet operation that looks at memory: what it relies on is kept in mind. -/
theorem AD_read {o : Op} (p : Mem → Prop) (hc : ls.contains i = false) (hpu : pureOp o = false) (hv : ∀ M', p M' → opA P hp ⟨d, o, ty, pos, af, none⟩ env M' = some (v, M')) (hpm : p M) (hk : AD P hp ops ls l ((i, p) :: hist) K (putA env d v) M) : AD P hp ops ls ((i, ⟨d, o, ty, pos, af, none⟩) :: l) hist K env M := by
  simp only [AD, wantedA]
  rw [if_neg (by simp only [hc, Bool.false_eq_true, not_false_eq_true]), if_neg (by simp [hpu])]
  exact ⟨v, p, fun M' h => .inl (hv M' h), hpm, hk⟩
/-- A quiet operation that looks at no memory. -/
theorem AD_const {o : Op} (hc : ls.contains i = false) (hpu : pureOp o = false) (hv : ∀ M', opA P hp ⟨d, o, ty, pos, af, none⟩ env M' = some (v, M')) (hk : AD P hp ops ls l hist K (putA env d v) M) : AD P hp ops ls ((i, ⟨d, o, ty, pos, af, none⟩) :: l) hist K env M := by
  simp only [AD, wantedA]
  rw [if_neg (by simp only [hc, Bool.false_eq_true, not_false_eq_true]), if_neg (by simp [hpu])]
  exact ⟨v, fun _ => True, fun M' _ => .inl (hv M'), trivial, AD_weaker l _ _ (fun x hx => (List.mem_cons.1 hx).elim (fun e => .inl (by subst e; exact fun _ => trivial)) fun hx => .inr ⟨x, hx, rfl, fun _ h => h⟩) _ _ hk⟩
theorem AD_convI {s t : TypeId} {x : Operand} {k k' : IntKind} {n : Int} {a b : TI} (hc : ls.contains i = false) (hx : ev env x = .int k n) (hs : ti P s = some a) (ht : ti P t = some b) (hd : b.desc = .int k') (hk : AD P hp ops ls l hist K (putA env d (.int k' (k'.wrap n))) M) : AD P hp ops ls ((i, ⟨d, .convert s t x, ty, pos, af, none⟩) :: l) hist K env M := by
  refine AD_const hc rfl (fun M' => ?_) hk
  show convA P s t _ (ev env x) M' = _
  rw [hx, conv_int, hs, ht]
  simp only [convI, hd]
/-- An operation that makes something, or writes. -/
theorem AD_loud {o : Op} (hc : ls.contains i = true) (hv : opA P hp ⟨d, o, ty, pos, af, none⟩ env M = some (v, M')) (hh : histOK ops i M' hist) (hk : AD P hp ops ls l hist K (putA env d v) M') : AD P hp ops ls ((i, ⟨d, o, ty, pos, af, none⟩) :: l) hist K env M := by
  simp only [AD, wantedA]
  rw [if_pos hc]
  exact OpW.of_opA hv ⟨hh, hk⟩
/-- A call of a function of the program. -/
theorem AD_call {f : Operand} {as : List Operand} {ts : Array TypeId} {k : FuncId} {first caps : List AV} {Post : AV → Mem → Prop} (hc : ls.contains i = true) (hf : ev env f = .fn (.func k) first caps) (hk : callable P k = true)
    (h : AC P k (first ++ as.map (ev env) ++ caps) M Post) (hp' : ∀ v M', M'.depth = M.depth → Post v M' → histOK ops i M' hist ∧ AD P hp ops ls l hist K (putA env d v) M') : AD P hp ops ls ((i, ⟨d, .call ⟨.value f, as.toArray, ts⟩, ty, pos, af, none⟩) :: l) hist K env M := by
  simp only [AD, wantedA]
  rw [if_pos hc]
  have h2 : AC P k (first ++ as.map (ev env) ++ caps) M fun v M' => M'.depth = M.depth ∧ Post v M' := fun base μ w cargs hR hv =>
    (h base μ w cargs hR hv).mono fun e w' ⟨v, cv, M', μ', h1, h2, h3, h4⟩ => ⟨v, cv, M', μ', h1, h2, h3, h3.d, h4⟩
  exact (OpW_call (o := ⟨d, .call ⟨.value f, as.toArray, ts⟩, ty, pos, af, none⟩) rfl rfl hf hk h2).mono fun v M' hq => hp' v M' hq.1 hq.2
/-- A call that leaves memory as it was, whatever memory is: it floats. -/
theorem AD_quiet {f : Operand} {as : List Operand} {ts : Array TypeId} {k : FuncId} {first caps : List AV} (hc : ls.contains i = false) (hf : ev env f = .fn (.func k) first caps) (hk : callable P k = true)
    (h : ∀ M, AC P k (first ++ as.map (ev env) ++ caps) M fun v' M' => v' = v ∧ M' = M) (hk' : AD P hp ops ls l hist K (putA env d v) M) : AD P hp ops ls ((i, ⟨d, .call ⟨.value f, as.toArray, ts⟩, ty, pos, af, none⟩) :: l) hist K env M := by
  simp only [AD, wantedA]
  rw [if_neg (by simp only [hc, Bool.false_eq_true, not_false_eq_true]), if_neg (by simp [pureOp])]
  exact ⟨v, fun _ => True, fun M' _ => .inr ⟨rfl, OpW_call (o := ⟨d, .call ⟨.value f, as.toArray, ts⟩, ty, pos, af, none⟩) rfl rfl hf hk (h M')⟩, trivial, AD_weaker l _ _ (fun x hx => (List.mem_cons.1 hx).elim (fun e => .inl (by subst e; exact fun _ => trivial)) fun hx => .inr ⟨x, hx, rfl, fun _ h => h⟩) _ _ hk'⟩
/-- Likewise, where memory has what is looked at. -/
theorem AD_quietP {f : Operand} {as : List Operand} {ts : Array TypeId} {k : FuncId} {first caps : List AV} (p : Mem → Prop) (hc : ls.contains i = false) (hf : ev env f = .fn (.func k) first caps) (hk : callable P k = true)
    (h : ∀ M, p M → AC P k (first ++ as.map (ev env) ++ caps) M fun v' M' => v' = v ∧ M' = M) (hpm : p M) (hk' : AD P hp ops ls l ((i, p) :: hist) K (putA env d v) M) : AD P hp ops ls ((i, ⟨d, .call ⟨.value f, as.toArray, ts⟩, ty, pos, af, none⟩) :: l) hist K env M := by
  simp only [AD, wantedA]
  rw [if_neg (by simp only [hc, Bool.false_eq_true, not_false_eq_true]), if_neg (by simp [pureOp])]
  exact ⟨v, p, fun M' hp => .inr ⟨rfl, OpW_call (o := ⟨d, .call ⟨.value f, as.toArray, ts⟩, ty, pos, af, none⟩) rfl rfl hf hk (h M' hp)⟩, hpm, hk'⟩
/-- Does a guard let an operation run? -/
@[go_sem] theorem wantedA_guard {o : Op} {j : Nat} {b : Bool} : wantedA ops ⟨d, o, ty, pos, af, some (j, b)⟩ env = (match (ops[j]?).bind (·.dst) with
    | some t => match env[t]? with | some (.bool c) => some (c == b) | some (.tup []) => some false | _ => none
    | none => none) := rfl
attribute [go_sem] List.filterMap_cons List.filterMap_nil Option.bind_some List.getElem?_toArray List.getElem?_cons_zero List.getElem?_cons_succ
end
end Go.Abs
