/- The heap written out: what changes of it, lists that are read in it, lists of one's own. -/
import Derived.Test.YtlpcbfndjffpfaaAbs28
set_option linter.unusedVariables false
set_option linter.unnecessarySimpa false
set_option linter.unusedSimpArgs false
namespace Go.Abs
open Go.RowKit (Below)

/-- Of the blocks that were there, those of p alone may differ. -/
structure UpdH (p : Nat → Prop) (H H' : List Block) : Prop where
  l : H.length ≤ H'.length
  g : ∀ i, i < H.length → ¬ p i → H'[i]? = H[i]?
def no : Nat → Prop := fun _ => False
theorem UpdH.refl {p : Nat → Prop} {H : List Block} : UpdH p H H := ⟨Nat.le_refl _, fun _ _ _ => rfl⟩
theorem UpdH.trans {p q r : Nat → Prop} {H H' H'' : List Block} (h : UpdH p H H') (k : UpdH q H' H'') (hp : ∀ i, i < H.length → p i → r i) (hq : ∀ i, i < H.length → q i → r i) : UpdH r H H'' :=
  ⟨Nat.le_trans h.l k.l, fun i hi hr => (k.g i (Nat.lt_of_lt_of_le hi h.l) fun hc => hr (hq i hi hc)).trans (h.g i hi fun hc => hr (hp i hi hc))⟩
theorem UpdH.mono {p q : Nat → Prop} {H H' : List Block} (h : UpdH p H H') (hp : ∀ i, i < H.length → p i → q i) : UpdH q H H' := ⟨h.l, fun i hi hq => h.g i hi fun hc => hq (hp i hi hc)⟩
theorem UpdH.get {p : Nat → Prop} {H H' : List Block} {i : Nat} {b : Block} (u : UpdH p H H') (h : H[i]? = some b) (hp : ¬ p i) : H'[i]? = some b := by
  rw [u.g i (List.getElem?_eq_some_iff.1 h).1 hp]; exact h
theorem UpdH.push {p : Nat → Prop} {H bs : List Block} : UpdH p H (H ++ bs) := ⟨by simp, fun i hi _ => List.getElem?_append_left hi⟩
theorem UpdH.set {H : List Block} {i : Nat} {b : Block} : UpdH (· = i) H (H.set i b) := ⟨by simp, fun j _ hj => List.getElem?_set_ne (fun e => hj e.symm)⟩
/-- Two steps, of which the first makes new blocks alone. -/
theorem UpdH.new {p : Nat → Prop} {H H' H'' : List Block} (h : UpdH no H H') (k : UpdH p H' H'') : UpdH p H H'' := h.trans k (fun i _ h => h.elim) (fun i _ h => h)
theorem UpdH.then {p q : Nat → Prop} {H H' H'' : List Block} (h : UpdH p H H') (k : UpdH q H' H'') (hq : ∀ i, i < H.length → q i → p i) : UpdH p H H'' := h.trans k (fun i _ h => h) hq

/-- Where a value points to. -/
def AV.loc : AV → Nat → Prop
  | .sl a _ _, i => a.ix = i
  | .ptr a, i => a.ix = i
  | .map j, i => j = i
  | _, _ => False

/-- A list that is read in the heap. -/
def RH (H : List Block) (v : AV) (es : Nat) (cs : List AV) (n : Nat) : Prop :=
  (v = .nilsl ∧ cs = [] ∧ n = 0) ∨ ∃ ix off c r, v = .sl ⟨0, ix, off⟩ n c ∧ H[ix]? = some (.row r) ∧ r.es = es ∧ (r.cs.drop off).take (n * es) = cs ∧ cs.length = n * es
/-- A list of one's own. -/
def OH (H : List Block) (v : AV) (e es : Nat) (cs : List AV) (n : Nat) : Prop :=
  (v = .nilsl ∧ cs = [] ∧ n = 0) ∨ ∃ ix c mv, v = .sl ⟨0, ix, 0⟩ n c ∧ (c = none ∨ c = some n) ∧ H[ix]? = some (.row ⟨e, es, cs, false, mv⟩) ∧ cs.length = n * es
section
variable {p : Nat → Prop} {H H' : List Block} {S : List (List Block)} {v : AV} {e es n : Nat} {cs : List AV} {i : Nat}
theorem RH.nil : RH H .nilsl es [] 0 := .inl ⟨rfl, rfl, rfl⟩
theorem OH.nil : OH H .nilsl e es [] 0 := .inl ⟨rfl, rfl, rfl⟩
theorem RH.rd (h : RH H v es cs n) : Rd ⟨H, S⟩ v es cs n := by
  rcases h with h | ⟨ix, off, c, r, rfl, h1, h2, h3, h4⟩
  · exact .inl h
  · exact .inr ⟨_, c, r, rfl, heap_row h1, h2, h3, h4⟩
theorem RH.of (h : Rd ⟨H, S⟩ v es cs n) (h0 : v.lev0 = true) : RH H v es cs n := by
  rcases h with h | ⟨⟨lv, ix, off⟩, c, r, rfl, h1, h2, h3, h4⟩
  · exact .inl h
  · simp only [AV.lev0, beq_iff_eq] at h0
    subst h0
    refine .inr ⟨ix, off, c, r, rfl, ?_, h2, h3, h4⟩
    have := getRow_get h1
    simpa only [mem_get0] using this
theorem RH.upd (h : RH H v es cs n) (u : UpdH p H H') (hp : ∀ i, v.loc i → ¬ p i) : RH H' v es cs n := by
  rcases h with h | ⟨ix, off, c, r, rfl, h1, h2, h3, h4⟩
  · exact .inl h
  · exact .inr ⟨ix, off, c, r, rfl, u.get h1 (hp ix rfl), h2, h3, h4⟩
theorem RH.lt (h : RH H v es cs n) (hi : v.loc i) : i < H.length := by
  rcases h with ⟨rfl, _⟩ | ⟨ix, off, c, r, rfl, h1, _⟩
  · exact hi.elim
  · cases hi; exact (List.getElem?_eq_some_iff.1 h1).1
theorem RH.lev0 (h : RH H v es cs n) : v.lev0 = true := by
  rcases h with ⟨rfl, _⟩ | ⟨ix, off, c, r, rfl, h1, _⟩ <;> rfl
theorem RH.st (h : RH H v es cs n) : v.st = true := by
  rcases h with ⟨rfl, _⟩ | ⟨ix, off, c, r, rfl, h1, _⟩ <;> rfl
theorem RH.new (h : RH H v es cs n) (u : UpdH no H H') : RH H' v es cs n := h.upd u fun _ _ => id
theorem RH.len (h : RH H v es cs n) : cs.length = n * es := (h.rd (S := [])).len
theorem OH.rh (h : OH H v e es cs n) : RH H v es cs n := by
  rcases h with h | ⟨ix, c, mv, rfl, h1, h2, h3⟩
  · exact .inl h
  · exact .inr ⟨ix, 0, c, _, rfl, h2, rfl, by rw [List.drop_zero, List.take_of_length_le (by show cs.length ≤ n * es; omega)], h3⟩
theorem OH.upd (h : OH H v e es cs n) (u : UpdH p H H') (hp : ∀ i, v.loc i → ¬ p i) : OH H' v e es cs n := by
  rcases h with h | ⟨ix, c, mv, rfl, h1, h2, h3⟩
  · exact .inl h
  · exact .inr ⟨ix, c, mv, rfl, h1, u.get h2 (hp ix rfl), h3⟩
theorem OH.new (h : OH H v e es cs n) (u : UpdH no H H') : OH H' v e es cs n := h.upd u fun _ _ => id
theorem OH.of {k : Nat} (h : Own k ⟨H, S⟩ v e es cs n) : OH H v e es cs n ∧ ∀ i, v.loc i → k ≤ i := by
  rcases h with ⟨rfl, h2, h3⟩ | ⟨ix, c, mv, rfl, h1, h2, h3, h4⟩
  · exact ⟨.inl ⟨rfl, h2, h3⟩, fun i hi => hi.elim⟩
  · exact ⟨.inr ⟨ix, c, mv, rfl, h2, by simpa only [mem_get0] using h3, h4⟩, fun i hi => by cases hi; exact h1⟩
end
section
variable {P : Program} {H : List Block} {S : List (List Block)} {t1 t2 e : TypeId} {i i2 j : TI} {s x v : AV} {es n m : Nat} {cs ys : List AV}
theorem content_rh (h : RH H x es ys m) : contentA ⟨H, S⟩ x = some (ys, m) ∧ rowSize ⟨H, S⟩ es x = true ∧ ys.length = m * es := ⟨h.rd.content, h.rd.rowSize, h.len⟩
theorem appH (hi : ti P t1 = some i) (hd : i.desc = .slice e) (hj : ti P e = some j) (hi2 : ti P t2 = some i2) (hd2 : i2.desc.isSeq = true) (hes : j.size = es)
    (hpos : 0 < es ∧ 0 < j.bytes ∧ j.zero.cells.length = j.size ∧ j.zero.cells.all AV.st = true) (hs : OH H s e es cs n) (hx : contentA ⟨H, S⟩ x = some (ys, m) ∧ rowSize ⟨H, S⟩ es x = true ∧ ys.length = m * es) (hst : ys.all AV.st = true) (hb : (n + m) * j.bytes ≤ 140737488355328) :
    ∃ v' H', appendA P t1 t2 true s x ⟨H, S⟩ = some (v', ⟨H', S⟩) ∧ OH H' v' e es (cs ++ ys) (n + m) ∧ UpdH s.loc H H' ∧ ∀ k, v'.loc k → s.loc k ∨ H.length ≤ k := by
  obtain ⟨hx, hxr, hyl⟩ := hx
  unfold appendA
  rw [hi, hi2]
  simp only [hd, hj, hd2, hx]
  rw [if_neg (by simp), if_pos ⟨by rw [hes]; exact hxr, hst, by rw [hes]; exact hpos.1, hpos.2⟩]
  have hcases : m = 0 ∧ ys = [] ∨ 0 < m := by
    rcases Nat.eq_zero_or_pos m with h | h
    · subst h; exact .inl ⟨rfl, by simpa using hyl⟩
    · exact .inr h
  rcases hs with ⟨rfl, rfl, rfl⟩ | ⟨ix, c, mv, rfl, hc, hg, hl⟩
  · simp only [Nat.zero_add] at hb
    rcases hcases with ⟨rfl, rfl⟩ | hm
    · exact ⟨.nilsl, H, by simp, .inl ⟨rfl, rfl, rfl⟩, UpdH.refl, fun k hk => .inl hk⟩
    · rw [if_neg (by omega), if_pos hb]
      refine ⟨_, _, rfl, .inr ⟨H.length, none, false, by simp [mem_atH], .inl rfl, ?_, ?_⟩, UpdH.push, fun k hk => ?_⟩
      · rw [hes]; simp
      · simp [hyl]
      · simp only [mem_atH, AV.loc] at hk; omega
  · rcases hcases with ⟨rfl, rfl⟩ | hm
    · simp only [if_true]
      exact ⟨_, _, rfl, .inr ⟨ix, c, mv, by simp, hc, by simpa using hg, by simpa using hl⟩, UpdH.refl, fun k hk => .inl hk⟩
    · simp only [if_neg (show ¬ m = 0 by omega)]
      have hr : getRow ⟨H, S⟩ ⟨0, ix, 0⟩ = some ⟨e, es, cs, false, mv⟩ := heap_row hg
      have hgl := (List.getElem?_eq_some_iff.1 hg).1
      simp only [hr, hes, if_true]
      rcases hc with rfl | rfl
      · have hlt : ¬ (0 + (n + m) * es ≤ cs.length) := by
          rw [hl, Nat.add_mul]
          have := Nat.mul_pos hm hpos.1
          omega
        simp only
        rw [if_neg hlt, if_pos ⟨trivial, by rw [hl]; omega, trivial, hb⟩]
        refine ⟨.sl ⟨0, ix, 0⟩ (n + m) none, H.set ix (.row ⟨e, es, cs ++ ys, false, true⟩), by rw [mem_set0], .inr ⟨ix, none, true, rfl, .inl rfl, by rw [List.getElem?_set_self hgl], by simp [hl, hyl, Nat.add_mul]⟩, UpdH.set.mono (fun i _ hi => hi.symm), fun k hk => .inl hk⟩
      · simp only
        simp only [if_neg (show ¬ (n + m ≤ n) by omega), if_pos hb]
        have hcells : sliceCells ⟨H, S⟩ (.sl ⟨0, ix, 0⟩ n (some n)) = some (cs, n) := (OH.rh (e := e) (.inr ⟨ix, some n, mv, rfl, .inr rfl, hg, hl⟩) : RH H _ es cs n).rd.cells
        rw [hcells]
        refine ⟨.sl ⟨0, H.length, 0⟩ (n + m) none, H ++ [.row ⟨e, es, cs ++ ys, false, false⟩], rfl, .inr ⟨H.length, none, false, rfl, .inl rfl, by simp, by simp [hl, hyl, Nat.add_mul]⟩, UpdH.push, fun k hk => .inr ?_⟩
        cases hk; exact Nat.le_refl _
/-- An element of one cell. -/
theorem at_rh {k : Nat} {kk : IntKind} (h : RH H v 1 cs n) (hi : ti P t1 = some i) (hd : i.desc = .slice e) (hj : ti P e = some j) (hs : j.size = 1) (ha : j.isAgg = false) (hk : k < n) :
    ∃ q, indexAddrA P t1 v (.int kk k) ⟨H, S⟩ = some q ∧ loadA P e q ⟨H, S⟩ = cs[k]? ∧ ∃ a, q = .ptr a := by
  rcases h with ⟨_, _, rfl⟩ | ⟨ix, off, c, r, rfl, h1, h2, h3, h4⟩
  · omega
  · have hr : ∀ o, getRow ⟨H, S⟩ ⟨0, ix, o⟩ = some r := fun o => heap_row h1
    refine ⟨_, index_addr hi hd hj (hr off) hs h2 (by omega) (by omega), ?_, _, rfl⟩
    rw [load_one hj ha (hr _), ← h3, List.getElem?_take, if_pos (by omega), List.getElem?_drop]
    rfl
/-- A cut. -/
theorem cut_rh (h : RH H v es cs n) (hi : ti P t1 = some i) (hd : i.desc = .slice e) (hj : ti P e = some j) (hs : j.size = es) {lo hi' : Option AV} {l u : Nat} (hlo : onat 0 lo = some l) (hhi : onat n hi' = some u) (hlu : l ≤ u) (hun : u ≤ n) :
    ∃ v', slices P t1 v lo hi' none ⟨H, S⟩ = some v' ∧ RH H v' es ((cs.take (u * es)).drop (l * es)) (u - l) ∧ ∀ k, v'.loc k → v.loc k := by
  obtain ⟨v', h1, h2⟩ := slice_rd (P := P) (h.rd (S := S)) hi hd hj hs hlo hhi hlu hun
  have key : v'.lev0 = true ∧ ∀ k, v'.loc k → v.loc k := by
    unfold slices at h1
    rw [hi] at h1
    simp only [hd] at h1
    unfold sliceA at h1
    rw [hi] at h1
    simp only [hd] at h1
    rcases h with ⟨rfl, _⟩ | ⟨ix, off, c, r, rfl, _⟩
    · simp only [hj] at h1
      split at h1
      · split at h1
        · cases h1; exact ⟨rfl, fun k hk => hk⟩
        · cases h1
      · cases h1
    · simp only [hj] at h1
      split at h1
      · split at h1
        · split at h1
          · cases h1; exact ⟨rfl, fun k hk => hk⟩
          · cases h1
        · split at h1
          · split at h1
            · cases h1; exact ⟨rfl, fun k hk => hk⟩
            · cases h1
          · cases h1
        · cases h1
      · cases h1
  exact ⟨v', h1, RH.of h2 key.1, key.2⟩
end

/-- Frames that are there no more are forgotten. -/
theorem AC_heap {P : Program} {f : FuncId} {args : List AV} {H : List Block} {S : List (List Block)} {Post : AV → Mem → Prop} (h : AC P f args ⟨H, S⟩ Post) (hs : ∀ v M', Post v M' → ∃ k, Step k ⟨H, S⟩ M') :
    AC P f args ⟨H, S⟩ (fun v M' => ∃ M1, Post v M1 ∧ M' = ⟨M1.heap, S⟩) := by
  intro base μ w cargs hR hv
  refine (h base μ w cargs hR hv).mono fun e w' ⟨v, cv, M1, μ', h1, h2, h3, h4⟩ => ?_
  obtain ⟨k, st⟩ := hs v M1 h4
  have hsub : ∀ lv ix b, (⟨M1.heap, S⟩ : Mem).get lv ix = some b → M1.get lv ix = some b := by
    intro lv ix b hb
    by_cases h0 : lv = 0
    · subst h0
      rw [heap_get] at *; exact hb
    · have : (⟨H, S⟩ : Mem).get lv ix = some b := by
        unfold Mem.get at *
        simpa only [h0, if_false] using hb
      rcases st.g lv ix b this with h | ⟨h, _⟩
      · exact h
      · exact absurd h h0
  have hrev : ∀ lv ix, (⟨H, S⟩ : Mem).get lv ix ≠ none → (⟨M1.heap, S⟩ : Mem).get lv ix ≠ none := by
    intro lv ix hb
    by_cases h0 : lv = 0
    · subst h0
      rw [heap_get] at *
      simp only [ne_eq, List.getElem?_eq_none_iff, Nat.not_le] at *
      have := st.h
      simp only at this
      omega
    · unfold Mem.get at *
      simpa only [h0, if_false] using hb
  let μ2 : Mu := fun lv ix => if (⟨M1.heap, S⟩ : Mem).get lv ix = none then [] else μ' lv ix
  have hin : ∀ lv ix arr, arr ∈ μ2 lv ix → arr ∈ μ' lv ix ∧ (⟨M1.heap, S⟩ : Mem).get lv ix ≠ none := by
    intro lv ix arr ha
    by_cases hc : (⟨M1.heap, S⟩ : Mem).get lv ix = none
    · simp only [μ2, hc, if_true] at ha; cases ha
    · simp only [μ2, hc, if_false] at ha; exact ⟨ha, hc⟩
  have e0 : Ext μ' μ2 0 := by
    intro lv hl ix arr ha
    have hl0 : lv = 0 := by omega
    subst hl0
    refine ⟨arr, ?_, rfl, rfl, rfl, rfl, Nat.le_refl _, rfl⟩
    have hc : (⟨M1.heap, S⟩ : Mem).get 0 ix ≠ none := by
      intro hc
      have h5 : M1.get 0 ix = none := by rw [heap_get] at *; exact hc
      rw [h3.r.nomu 0 ix h5] at ha; cases ha
    simp only [μ2, hc, if_false]; exact ha
  have hR2 : R base μ2 ⟨M1.heap, S⟩ w' := by
    refine ⟨h3.r.size, fun lv ix b hb => ?_, fun lv ix hn => by simp only [μ2, hn, if_true], fun lv ix arr ha => h3.r.fresh lv ix arr (hin _ _ _ ha).1, fun lv ix arr lv' ix' arr' ha ha' => h3.r.excl _ _ _ _ _ _ (hin _ _ _ ha).1 (hin _ _ _ ha').1⟩
    have := (h3.r.block lv ix b (hsub _ _ _ hb)).pres e0 (fun _ _ => rfl)
    have hc : μ2 lv ix = μ' lv ix := by simp only [μ2, hb]; simp
    rw [hc]; exact this
  refine ⟨v, cv, ⟨M1.heap, S⟩, μ2, h1, VR_ext e0 (Nat.le_refl _) h2, ⟨hR2, h3.b, ?_, rfl⟩, M1, h4, rfl⟩
  intro lv hl ix arr ha
  obtain ⟨arr', h5, h6⟩ := h3.e lv hl ix arr ha
  refine ⟨arr', ?_, h6⟩
  have hc : (⟨M1.heap, S⟩ : Mem).get lv ix ≠ none := hrev lv ix fun hn => by rw [hR.nomu lv ix hn] at ha; cases ha
  simp only [μ2, hc, if_false]; exact h5
/-- What a function that changes nothing gives, over the heap written out. -/
theorem UpdH.of_step {H : List Block} {S : List (List Block)} {M : Mem} (s : Step H.length ⟨H, S⟩ M) : UpdH no H M.heap := by
  refine ⟨s.h, fun i hi _ => ?_⟩
  have h1 : (⟨H, S⟩ : Mem).get 0 i = some H[i] := by rw [heap_get]; exact List.getElem?_eq_getElem hi
  have h2 := s.keep hi h1
  rw [heap_get] at h2
  rw [h2, List.getElem?_eq_getElem hi]
section
variable {P : Program} {H : List Block} {S : List (List Block)} {t e : TypeId} {i j : TI} {v z : AV}
/-- A slice of one cell. -/
theorem one_cell (hi : ti P t = some i) (hd : i.desc = .slice e) (hj : ti P e = some j) (hs : j.size = 1) (hz : j.zero.cells = [z]) (hzs : z.st = true) (hc : v.cells = [v]) (hv : v.st = true) :
    buildSliceA P t true 1 [(0, v)] ⟨H, S⟩ = some (.sl ⟨0, H.length, 0⟩ 1 (some 1), ⟨H ++ [.row ⟨e, 1, [v], false, false⟩], S⟩) := by
  unfold buildSliceA
  rw [hi]; simp only [hd, hj, hs, hz]
  have e1 : fillA (fun i => some (i * 1, 1)) (zeros [z] 1) [(0, v)] = some [v] := by
    have : zeros [z] 1 = [z] := rfl
    rw [this]
    simp only [fillA, hc, hv, List.length_cons, List.length_nil, List.all_cons, List.all_nil, Bool.and_true]
    rfl
  rw [if_pos ⟨by decide, rfl, by simp [hzs]⟩, e1]
  simp only
  rw [if_pos ⟨by simp, by simp, by simp [hv]⟩]
  rfl
/-- A new slice of so many noughts. -/
theorem make_cells {n : Nat} {k k' : IntKind} (hi : ti P t = some i) (hd : i.desc = .slice e) (hj : ti P e = some j) (hs : j.size = 1) (hz : j.zero.cells = [z]) (hzs : z.st = true) (hb : n * j.bytes ≤ 140737488355328) (hn : n ≤ 16777216) :
    makeSliceA P t true (.int k n) (.int k' n) ⟨H, S⟩ = some (.sl ⟨0, H.length, 0⟩ n (some n), ⟨H ++ [.row ⟨e, 1, List.replicate n z, false, false⟩], S⟩) := by
  have hn' : ∀ k : IntKind, natOf (.int k (n : Int)) = some n := fun k => by simp [natOf]
  unfold makeSliceA
  rw [hi]; simp only [hd, hj, hs, hz, hn']
  rw [if_pos ⟨Nat.le_refl _, by omega, by rw [Nat.mul_comm]; omega, rfl, by simp [hzs], by decide⟩]
  have e1 : zeros [z] n = List.replicate n z := by
    apply List.ext_getElem?
    intro m
    simp only [zeros, List.length_cons, List.length_nil, Nat.zero_add, Nat.mul_one, List.getElem?_map, Nat.mod_one, List.getD_cons_zero, List.getElem?_replicate]
    split
    · rw [List.getElem?_range (by assumption)]; rfl
    · rw [List.getElem?_eq_none (by simp; omega)]; rfl
  rw [e1]; rfl
end
/-- A list of numbers that came in. -/
theorem ints_of {k : IntKind} {css : List (List AV)} (h : ∀ x, x ∈ css → x.length = 1 ∧ ∃ n, x = [.int k n] ∧ k.min ≤ n ∧ n ≤ k.max) :
    ∃ zs : List Int, (css.flatten = zs.map (AV.int k) ∧ css.length = zs.length) ∧ ∀ n ∈ zs, k.min ≤ n ∧ n ≤ k.max := by
  induction css with
  | nil => exact ⟨[], ⟨rfl, rfl⟩, fun n hn => by cases hn⟩
  | cons x css ih =>
    obtain ⟨zs, ⟨h1, h2⟩, h3⟩ := ih fun y hy => h y (List.mem_cons_of_mem _ hy)
    obtain ⟨_, n, rfl, hn1, hn2⟩ := h x List.mem_cons_self
    refine ⟨n :: zs, ⟨by rw [List.flatten_cons, h1]; rfl, by simp [h2]⟩, fun m hm => ?_⟩
    rcases List.mem_cons.1 hm with rfl | hm
    · exact ⟨hn1, hn2⟩
    · exact h3 m hm
/-- Bytes that came in. -/
theorem bytes_of {css : List (List AV)} (h : ∀ x, x ∈ css → x.length = 1 ∧ ∃ n, x = [.int .u8 n] ∧ IntKind.min .u8 ≤ n ∧ n ≤ IntKind.max .u8) :
    ∃ l : List UInt8, css.flatten = bytesA l ∧ css.length = l.length := by
  induction css with
  | nil => exact ⟨[], rfl, rfl⟩
  | cons x css ih =>
    obtain ⟨l, h1, h2⟩ := ih fun y hy => h y (List.mem_cons_of_mem _ hy)
    obtain ⟨_, n, rfl, hn1, hn2⟩ := h x List.mem_cons_self
    simp [IntKind.min, IntKind.max, IntKind.signed, IntKind.bits] at hn1 hn2
    refine ⟨UInt8.ofNat n.toNat :: l, ?_, by simp [h2]⟩
    rw [List.flatten_cons, h1]
    simp only [bytesA, List.map_cons, List.cons_append, List.nil_append, List.cons.injEq, AV.int.injEq, true_and, and_true]
    rw [UInt8.toNat_ofNat', Nat.mod_eq_of_lt (by omega)]
    omega
/-- A list of bytes that came in, in the heap. -/
theorem bytes_rh {H : List Block} {S : List (List Block)} {v : AV} {css : List (List AV)} (hs : v.st = true) (hr : Rd ⟨H, S⟩ v 1 css.flatten css.length) (h : ∀ x, x ∈ css → x.length = 1 ∧ ∃ n, x = [.int .u8 n] ∧ IntKind.min .u8 ≤ n ∧ n ≤ IntKind.max .u8) :
    ∃ l : List UInt8, RH H v 1 (bytesA l) l.length := by
  obtain ⟨l, h1, h2⟩ := bytes_of h
  rw [h1, h2] at hr
  exact ⟨l, RH.of hr (AV.st_lev0 hs)⟩
theorem nats_of {k : IntKind} (hk : 0 ≤ k.min) {css : List (List AV)} (h : ∀ x, x ∈ css → x.length = 1 ∧ ∃ n, x = [.int k n] ∧ k.min ≤ n ∧ n ≤ k.max) :
    ∃ ns : List Nat, css.flatten = ns.map (fun n : Nat => AV.int k n) ∧ css.length = ns.length ∧ ∀ n ∈ ns, (n : Int) ≤ k.max := by
  induction css with
  | nil => exact ⟨[], rfl, rfl, fun n hn => by cases hn⟩
  | cons x css ih =>
    obtain ⟨ns, h1, h2, h3⟩ := ih fun y hy => h y (List.mem_cons_of_mem _ hy)
    obtain ⟨_, n, rfl, hn1, hn2⟩ := h x List.mem_cons_self
    obtain ⟨m, rfl⟩ : ∃ m : Nat, n = m := ⟨n.toNat, by omega⟩
    refine ⟨m :: ns, by rw [List.flatten_cons, h1]; rfl, by simp [h2], fun q hq => ?_⟩
    rcases List.mem_cons.1 hq with rfl | hq
    · exact hn2
    · exact h3 q hq
/-- A list of lists of bytes that came in. -/
theorem lists_of {H : List Block} {S : List (List Block)} {css : List (List AV)} (h : ∀ x, x ∈ css → x.length = 1 ∧ ∃ (v : AV) (css' : List (List AV)), x = [v] ∧ v.st = true ∧ v.off0 = true ∧ Rd ⟨H, S⟩ v 1 css'.flatten css'.length ∧ css'.length ≤ maxLen ∧ ∀ y, y ∈ css' → y.length = 1 ∧ ∃ n, y = [AV.int .u8 n] ∧ IntKind.min .u8 ≤ n ∧ n ≤ IntKind.max .u8) :
    ∃ ws : List (AV × List UInt8), css.flatten = ws.map (·.1) ∧ css.length = ws.length ∧ ∀ w ∈ ws, RH H w.1 1 (bytesA w.2) w.2.length := by
  induction css with
  | nil => exact ⟨[], rfl, rfl, fun n hn => by cases hn⟩
  | cons x css ih =>
    obtain ⟨ws, h1, h2, h3⟩ := ih fun y hy => h y (List.mem_cons_of_mem _ hy)
    obtain ⟨_, v, css', rfl, hs, _, hr, _, he⟩ := h x List.mem_cons_self
    obtain ⟨l, hl⟩ := bytes_rh hs hr he
    refine ⟨(v, l) :: ws, by rw [List.flatten_cons, h1]; rfl, by simp [h2], fun q hq => ?_⟩
    rcases List.mem_cons.1 hq with rfl | hq
    · exact hl
    · exact h3 q hq
end Go.Abs
