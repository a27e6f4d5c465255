/- The abstract memory, and how it stands to the model's world. -/
import Derived.Test.YtlpcbfndjffpfaaAbs0
set_option linter.unusedVariables false
set_option linter.unnecessarySimpa false
set_option linter.unusedSimpArgs false
namespace Go.Abs
open Go.RowKit (Below)

/-- A row: its elements' type, an element's cells, the cells; is it read-only; may an append have moved it? -/
structure Row where
  e : TypeId
  es : Nat
  cs : List AV
  ro : Bool
  mv : Bool

inductive Block where
  | row (r : Row)
  | map (es : List (AV × AV))
  | dead

structure Mem where
  heap : List Block
  stk : List (List Block)

def Mem.get (M : Mem) (lv ix : Nat) : Option Block :=
  if lv = 0 then M.heap[ix]? else if lv ≤ M.stk.length then (M.stk[M.stk.length - lv]?).bind (·[ix]?) else none
def Mem.set (M : Mem) (lv ix : Nat) (b : Block) : Mem :=
  if lv = 0 then { M with heap := M.heap.set ix b } else if lv ≤ M.stk.length then { M with stk := M.stk.modify (M.stk.length - lv) (·.set ix b) } else M
def Mem.depth (M : Mem) : Nat := M.stk.length
def Mem.enter (M : Mem) : Mem := { M with stk := [] :: M.stk }
def Mem.leave (M : Mem) : Mem := { M with stk := M.stk.tail }
def Mem.pushH (M : Mem) (b : Block) : Mem := { M with heap := M.heap ++ [b] }
def Mem.top (M : Mem) : List Block := M.stk.headD []
def Mem.pushL (M : Mem) (b : Block) : Mem := { M with stk := (M.top ++ [b]) :: M.stk.tail }

theorem Mem.get_set_self {M : Mem} {lv ix : Nat} {b b0 : Block} (h : M.get lv ix = some b0) : (M.set lv ix b).get lv ix = some b := by
  unfold Mem.get Mem.set at *
  by_cases h0 : lv = 0
  · simp only [h0, if_true] at *
    rw [List.getElem?_set, if_pos rfl, if_pos (by exact (List.getElem?_eq_some_iff.1 h).1)]
  · simp only [h0, if_false] at *
    split at h
    · rename_i hl
      simp only [hl, if_true, List.length_modify, List.getElem?_modify]
      cases hf : M.stk[M.stk.length - lv]? with
      | none => simp [hf] at h
      | some fr =>
        simp only [hf, Option.bind_some] at h
        simp only [Option.map_eq_map, Option.map_some, if_true, Option.bind_some]
        rw [List.getElem?_set, if_pos rfl, if_pos (by exact (List.getElem?_eq_some_iff.1 h).1)]
    · simp at h

theorem Mem.get_set_ne {M : Mem} {lv ix lv' ix' : Nat} {b : Block} (h : ¬ (lv' = lv ∧ ix' = ix)) : (M.set lv ix b).get lv' ix' = M.get lv' ix' := by
  unfold Mem.get Mem.set
  by_cases h0 : lv = 0
  · simp only [h0, if_true]
    by_cases h1 : lv' = 0
    · simp only [h1, if_true]
      rw [List.getElem?_set, if_neg (fun e => h ⟨by omega, e.symm⟩)]
    · simp only [h1, if_false]
  · simp only [h0, if_false]
    by_cases hl : lv ≤ M.stk.length
    · simp only [hl, if_true, List.length_modify, List.getElem?_modify]
      by_cases h1 : lv' = 0
      · simp only [h1, if_true]
      · simp only [h1, if_false]
        by_cases hl' : lv' ≤ M.stk.length
        · simp only [hl', if_true]
          by_cases he : M.stk.length - lv = M.stk.length - lv'
          · have e : lv' = lv := by omega
            subst e
            cases hf : M.stk[M.stk.length - lv']? with
            | none => simp
            | some fr =>
              simp only [Option.map_eq_map, Option.map_some, if_true, Option.bind_some]
              rw [List.getElem?_set, if_neg (fun e => h ⟨rfl, e.symm⟩)]
          · simp [he]
        · simp [hl']
    · simp [hl]

theorem Mem.get_depth {M : Mem} {lv ix : Nat} {b : Block} (h : M.get lv ix = some b) : lv ≤ M.depth := by
  unfold Mem.get at h
  split at h
  · omega
  · split at h
    · assumption
    · simp at h

theorem Mem.depth_set {M : Mem} {lv ix : Nat} {b : Block} : (M.set lv ix b).depth = M.depth := by
  unfold Mem.set Mem.depth; split
  · rfl
  · split <;> simp

theorem Mem.get_pushH_self {M : Mem} {b : Block} : (M.pushH b).get 0 M.heap.length = some b := by simp [Mem.get, Mem.pushH]
theorem Mem.get_pushH_ne {M : Mem} {b : Block} {lv ix : Nat} (h : ¬ (lv = 0 ∧ ix = M.heap.length)) : (M.pushH b).get lv ix = M.get lv ix := by
  unfold Mem.get Mem.pushH
  by_cases h0 : lv = 0
  · simp only [h0, if_true]
    rw [List.getElem?_append]
    split
    · rfl
    · have : ix ≠ M.heap.length := fun e => h ⟨h0, e⟩
      rw [List.getElem?_eq_none (by simp; omega), List.getElem?_eq_none (by omega)]
  · simp only [h0, if_false]
theorem Mem.get_fresh {M : Mem} : M.get 0 M.heap.length = none := by simp [Mem.get]

theorem Mem.get_top {M : Mem} {ix : Nat} (h : 0 < M.depth) : M.get M.depth ix = M.top[ix]? := by
  unfold Mem.get Mem.depth Mem.top at *
  cases hs : M.stk with
  | nil => simp [hs] at h
  | cons fr rest => simp
theorem Mem.get_pushL_self {M : Mem} {b : Block} (h : 0 < M.depth) : (M.pushL b).get M.depth M.top.length = some b := by
  unfold Mem.depth at h
  cases hs : M.stk with
  | nil => simp [hs] at h
  | cons fr rest => simp [Mem.get, Mem.pushL, Mem.top, Mem.depth, hs]
theorem Mem.get_pushL_ne {M : Mem} {b : Block} {lv ix : Nat} (h0 : 0 < M.depth) (h : ¬ (lv = M.depth ∧ ix = M.top.length)) : (M.pushL b).get lv ix = M.get lv ix := by
  unfold Mem.depth at *
  cases hs : M.stk with
  | nil => simp [hs] at h0
  | cons fr rest =>
    simp only [Mem.get, Mem.pushL, Mem.top, hs, List.headD_cons, List.tail_cons, List.length_cons]
    simp only [Mem.top, hs, List.headD_cons, List.length_cons] at h
    by_cases h1 : lv = 0
    · simp [h1]
    · simp only [h1, if_false]
      by_cases hl : lv ≤ rest.length + 1
      · simp only [hl, if_true]
        by_cases he : lv = rest.length + 1
        · subst he
          simp only [Nat.sub_self, List.getElem?_cons_zero, Option.bind_some]
          rw [List.getElem?_append]
          split
          · rfl
          · have : ix ≠ fr.length := fun e => h ⟨rfl, e⟩
            rw [List.getElem?_eq_none (by simp; omega), List.getElem?_eq_none (by omega)]
        · obtain ⟨k, hk⟩ : ∃ k, rest.length + 1 - lv = k + 1 := ⟨rest.length - lv, by omega⟩
          rw [hk]; simp
      · simp [hl]
theorem Mem.get_freshL {M : Mem} (h : 0 < M.depth) : M.get M.depth M.top.length = none := by rw [Mem.get_top h]; simp
theorem Mem.depth_pushH {M : Mem} {b : Block} : (M.pushH b).depth = M.depth := rfl
theorem Mem.depth_pushL {M : Mem} {b : Block} (h : 0 < M.depth) : (M.pushL b).depth = M.depth := by
  unfold Mem.depth Mem.pushL at *; cases hs : M.stk <;> simp_all

/-! ### the relation -/
structure RowOK (base : Nat) (μ : Mu) (w : World) (r : Row) (arrs : List Arr) : Prop where
  hd : ∃ a l, arrs = a :: l ∧ a.len = r.cs.length
  each : ∀ arr, arr ∈ arrs → arr.es = r.es ∧ arr.lo % r.es = 0 ∧ arr.len % r.es = 0 ∧ arr.lo ≤ arr.len ∧ arr.len ≤ arr.lo + arr.tot ∧ arr.len ≤ r.cs.length ∧
    ∀ (j : Nat) (x : AV), arr.lo ≤ j → j < arr.len → r.cs[j]? = some x → ∃ v, w.cell? ⟨arr.blk, arr.sh + (j - arr.lo), none⟩ = some v ∧ VR μ 0 x v
  own : r.ro = false → ∀ arr, arr ∈ arrs → arr.sh = 0 ∧ base ≤ arr.blk ∧ ∃ c fz, w.heap[arr.blk]? = some (.cells c r.e fz) ∧ c.size = arr.tot ∧ ∀ j, j < arr.tot → ¬ (fz.1 ≤ j ∧ j < fz.2)
  rdo : r.ro = true → ∀ arr, arr ∈ arrs → arr.blk < base
  mv : r.mv = false → arrs.length = 1

structure MapOK (base : Nat) (μ : Mu) (w : World) (es : List (AV × AV)) (arrs : List Arr) : Prop where
  one : ∃ arr, arrs = [arr] ∧ base ≤ arr.blk ∧ ∃ ents clock, w.heap[arr.blk]? = some (.map ents clock) ∧
    VRs μ 0 (es.map (·.1)) (ents.toList.map (·.key)) ∧ VRs μ 0 (es.map (·.2)) (ents.toList.map (·.val)) ∧
    (ents.toList.map (·.born)).Pairwise (· < ·) ∧ ∀ e, e ∈ ents.toList → e.born < clock

def BlockOK (base : Nat) (μ : Mu) (w : World) : Block → List Arr → Prop
  | .row r, arrs => RowOK base μ w r arrs
  | .map es, arrs => MapOK base μ w es arrs
  | .dead, _ => True

structure R (base : Nat) (μ : Mu) (M : Mem) (w : World) : Prop where
  size : base ≤ w.heap.size
  block : ∀ lv ix b, M.get lv ix = some b → BlockOK base μ w b (μ lv ix)
  nomu : ∀ lv ix, M.get lv ix = none → μ lv ix = []
  fresh : ∀ lv ix arr, arr ∈ μ lv ix → arr.blk < w.heap.size
  excl : ∀ lv ix arr lv' ix' arr', arr ∈ μ lv ix → arr' ∈ μ lv' ix' → base ≤ arr.blk → arr.blk = arr'.blk → lv = lv' ∧ ix = ix' ∧ arr = arr'

theorem BlockOK.pres {base : Nat} {μ μ' : Mu} {w w' : World} {b : Block} {arrs : List Arr} (h : BlockOK base μ w b arrs) (he : Ext μ μ' 0)
    (hw : ∀ arr, arr ∈ arrs → w'.heap[arr.blk]? = w.heap[arr.blk]?) : BlockOK base μ' w' b arrs := by
  cases b with
  | dead => trivial
  | row r =>
    obtain ⟨h1, h2, h3, h4, h5⟩ := h
    refine ⟨h1, fun arr ha => ?_, fun hr arr ha => ?_, h4, h5⟩
    · obtain ⟨a, b, c, d, f, g, e⟩ := h2 arr ha
      refine ⟨a, b, c, d, f, g, fun j x hlo hj hx => ?_⟩
      obtain ⟨v, hv, hr⟩ := e j x hlo hj hx
      refine ⟨v, ?_, VR_ext he (Nat.le_refl _) hr⟩
      rw [← hv]; unfold World.cell?; rw [hw arr ha]
    · rw [hw arr ha]; exact h3 hr arr ha
  | map es =>
    obtain ⟨arr, ha, hb, ents, clock, he', hk, hv, hp, hc⟩ := h.one
    exact ⟨⟨arr, ha, hb, ents, clock, by rw [hw arr (by rw [ha]; simp)]; exact he', VRs_ext he (Nat.le_refl _) hk, VRs_ext he (Nat.le_refl _) hv, hp, hc⟩⟩

/-- The relation looks at the heap alone. -/
theorem R.congr {base : Nat} {μ : Mu} {M : Mem} {w w' : World} (h : R base μ M w) (hw : w'.heap = w.heap) : R base μ M w' :=
  ⟨by rw [hw]; exact h.size, fun lv ix b hb => (h.block lv ix b hb).pres (Ext.refl _ _) (fun _ _ => by rw [hw]), h.nomu, fun lv ix arr ha => by rw [hw]; exact h.fresh lv ix arr ha, h.excl⟩

def Mu.upd (μ : Mu) (lv ix : Nat) (l : List Arr) : Mu := fun lv' ix' => if lv' = lv ∧ ix' = ix then l else μ lv' ix'
theorem Mu.upd_self {μ : Mu} {lv ix : Nat} {l : List Arr} : μ.upd lv ix l lv ix = l := by simp [Mu.upd]
theorem Mu.upd_ne {μ : Mu} {lv ix lv' ix' : Nat} {l : List Arr} (h : ¬ (lv' = lv ∧ ix' = ix)) : μ.upd lv ix l lv' ix' = μ lv' ix' := by simp [Mu.upd, h]

theorem Ext_upd {μ : Mu} {lv ix : Nat} {l : List Arr} {d : Nat} (h : ∀ arr, arr ∈ μ lv ix → ∃ arr', arr' ∈ l ∧ arr'.blk = arr.blk ∧ arr'.sh = arr.sh ∧ arr'.lo = arr.lo ∧ arr'.es = arr.es ∧ arr.len ≤ arr'.len ∧ arr'.tot = arr.tot) : Ext μ (μ.upd lv ix l) d := by
  intro lv' hl ix' arr ha
  by_cases hc : lv' = lv ∧ ix' = ix
  · obtain ⟨rfl, rfl⟩ := hc
    rw [Mu.upd_self]; exact h arr ha
  · rw [Mu.upd_ne hc]; exact ⟨arr, ha, rfl, rfl, rfl, rfl, Nat.le_refl _, rfl⟩

theorem Ext_new {μ : Mu} {lv ix : Nat} {l : List Arr} {d : Nat} (h : μ lv ix = []) : Ext μ (μ.upd lv ix l) d := Ext_upd fun arr ha => by rw [h] at ha; cases ha

/-- A new block. -/
theorem R.add {base : Nat} {μ : Mu} {M M' : Mem} {w : World} (h : R base μ M w) (lv ix : Nat) (b : Block) (o : Obj) (arr : Arr) (hn : M.get lv ix = none) (hs : M'.get lv ix = some b)
    (ho : ∀ lv' ix', ¬ (lv' = lv ∧ ix' = ix) → M'.get lv' ix' = M.get lv' ix') (hb : arr.blk = w.heap.size)
    (hok : BlockOK base (μ.upd lv ix [arr]) (w.alloc o) b [arr]) : R base (μ.upd lv ix [arr]) M' (w.alloc o) := by
  have hμ := h.nomu lv ix hn
  have he : Ext μ (μ.upd lv ix [arr]) 0 := Ext_new hμ
  refine ⟨by have := h.size; simp; omega, fun lv' ix' b' hb' => ?_, fun lv' ix' hn' => ?_, fun lv' ix' arr' ha => ?_, fun lv1 ix1 a1 lv2 ix2 a2 h1 h2 hbase heq => ?_⟩
  · by_cases hc : lv' = lv ∧ ix' = ix
    · obtain ⟨rfl, rfl⟩ := hc
      rw [hs] at hb'; cases hb'
      rw [Mu.upd_self]; exact hok
    · rw [ho _ _ hc] at hb'
      rw [Mu.upd_ne hc]
      refine (h.block _ _ _ hb').pres he fun arr' ha' => ?_
      exact Below.heap_alloc _ _ _ (h.fresh _ _ _ ha')
  · by_cases hc : lv' = lv ∧ ix' = ix
    · obtain ⟨rfl, rfl⟩ := hc
      rw [hs] at hn'; cases hn'
    · rw [ho _ _ hc] at hn'
      rw [Mu.upd_ne hc]; exact h.nomu _ _ hn'
  · by_cases hc : lv' = lv ∧ ix' = ix
    · obtain ⟨rfl, rfl⟩ := hc
      rw [Mu.upd_self] at ha
      simp at ha; subst ha
      simp; omega
    · rw [Mu.upd_ne hc] at ha
      have := h.fresh _ _ _ ha
      simp; omega
  · by_cases c1 : lv1 = lv ∧ ix1 = ix <;> by_cases c2 : lv2 = lv ∧ ix2 = ix
    · obtain ⟨rfl, rfl⟩ := c1
      obtain ⟨rfl, rfl⟩ := c2
      rw [Mu.upd_self] at h1 h2
      simp at h1 h2
      exact ⟨rfl, rfl, by rw [h1, h2]⟩
    · obtain ⟨rfl, rfl⟩ := c1
      rw [Mu.upd_self] at h1; rw [Mu.upd_ne c2] at h2
      simp at h1; subst h1
      have := h.fresh _ _ _ h2
      omega
    · obtain ⟨rfl, rfl⟩ := c2
      rw [Mu.upd_self] at h2; rw [Mu.upd_ne c1] at h1
      simp at h2; subst h2
      have := h.fresh _ _ _ h1
      omega
    · rw [Mu.upd_ne c1] at h1; rw [Mu.upd_ne c2] at h2
      exact h.excl _ _ _ _ _ _ h1 h2 hbase heq

/-- A block changes, in place: the world differs at this block's own concrete blocks alone; its arrays' records become l (same blocks). -/
theorem R.upd {base : Nat} {μ : Mu} {M M' : Mem} {w w' : World} (h : R base μ M w) (lv ix : Nat) (b b0 : Block) (l : List Arr) (hn : M.get lv ix = some b0) (hs : M'.get lv ix = some b)
    (ho : ∀ lv' ix', ¬ (lv' = lv ∧ ix' = ix) → M'.get lv' ix' = M.get lv' ix')
    (hl : ∀ arr, arr ∈ μ lv ix → ∃ arr', arr' ∈ l ∧ arr'.blk = arr.blk ∧ arr'.sh = arr.sh ∧ arr'.lo = arr.lo ∧ arr'.es = arr.es ∧ arr.len ≤ arr'.len ∧ arr'.tot = arr.tot)
    (hl' : ∀ arr', arr' ∈ l → base ≤ arr'.blk ∧ ((∃ arr, arr ∈ μ lv ix ∧ arr'.blk = arr.blk) ∨ w.heap.size ≤ arr'.blk) ∧ arr'.blk < w'.heap.size)
    (hu : ∀ a1 a2, a1 ∈ l → a2 ∈ l → a1.blk = a2.blk → a1 = a2)
    (hw : ∀ k, k < w.heap.size → (∀ arr', arr' ∈ l → arr'.blk ≠ k) → w'.heap[k]? = w.heap[k]?) (hsz : w.heap.size ≤ w'.heap.size)
    (hok : BlockOK base (μ.upd lv ix l) w' b l) : R base (μ.upd lv ix l) M' w' := by
  have he : Ext μ (μ.upd lv ix l) 0 := Ext_upd hl
  have hfar : ∀ lv' ix' arr arr', ¬ (lv' = lv ∧ ix' = ix) → arr ∈ μ lv' ix' → arr' ∈ l → arr'.blk ≠ arr.blk := by
    intro lv' ix' arr arr' hc ha ha' heq
    obtain ⟨hb, h3, _⟩ := hl' arr' ha'
    rcases h3 with ⟨a0, h0, h1⟩ | h3
    · obtain ⟨e1, e2, _⟩ := h.excl _ _ _ _ _ _ h0 ha (by omega) (by omega)
      exact hc ⟨e1.symm, e2.symm⟩
    · have := h.fresh _ _ _ ha; omega
  refine ⟨by have := h.size; omega, fun lv' ix' b' hb' => ?_, fun lv' ix' hn' => ?_, fun lv' ix' arr' ha => ?_, fun lv1 ix1 a1 lv2 ix2 a2 h1 h2 hbase heq => ?_⟩
  · by_cases hc : lv' = lv ∧ ix' = ix
    · obtain ⟨rfl, rfl⟩ := hc
      rw [hs] at hb'; cases hb'
      rw [Mu.upd_self]; exact hok
    · rw [ho _ _ hc] at hb'
      rw [Mu.upd_ne hc]
      refine (h.block _ _ _ hb').pres he fun arr' ha' => ?_
      exact hw _ (h.fresh _ _ _ ha') fun a ha => hfar _ _ _ _ hc ha' ha
  · by_cases hc : lv' = lv ∧ ix' = ix
    · obtain ⟨rfl, rfl⟩ := hc
      rw [hs] at hn'; cases hn'
    · rw [ho _ _ hc] at hn'
      rw [Mu.upd_ne hc]; exact h.nomu _ _ hn'
  · by_cases hc : lv' = lv ∧ ix' = ix
    · obtain ⟨rfl, rfl⟩ := hc
      rw [Mu.upd_self] at ha
      exact (hl' _ ha).2.2
    · rw [Mu.upd_ne hc] at ha
      have := h.fresh _ _ _ ha
      omega
  · by_cases c1 : lv1 = lv ∧ ix1 = ix <;> by_cases c2 : lv2 = lv ∧ ix2 = ix
    · obtain ⟨rfl, rfl⟩ := c1
      obtain ⟨rfl, rfl⟩ := c2
      rw [Mu.upd_self] at h1 h2
      exact ⟨rfl, rfl, hu _ _ h1 h2 heq⟩
    · obtain ⟨rfl, rfl⟩ := c1
      rw [Mu.upd_self] at h1; rw [Mu.upd_ne c2] at h2
      exact absurd heq (hfar _ _ _ _ c2 h2 h1)
    · obtain ⟨rfl, rfl⟩ := c2
      rw [Mu.upd_self] at h2; rw [Mu.upd_ne c1] at h1
      exact absurd heq.symm (hfar _ _ _ _ c1 h1 h2)
    · rw [Mu.upd_ne c1] at h1; rw [Mu.upd_ne c2] at h2
      exact h.excl _ _ _ _ _ _ h1 h2 hbase heq

/-- Entering a function, and leaving it. -/
theorem Mem.get_enter {M : Mem} {lv ix : Nat} : M.enter.get lv ix = M.get lv ix := by
  unfold Mem.get Mem.enter
  by_cases h0 : lv = 0
  · simp [h0]
  · simp only [h0, if_false, List.length_cons]
    by_cases hl : lv ≤ M.stk.length
    · simp only [hl, if_true, show lv ≤ M.stk.length + 1 by omega]
      obtain ⟨k, hk⟩ : ∃ k, M.stk.length + 1 - lv = k + 1 := ⟨M.stk.length - lv, by omega⟩
      rw [hk]; simp only [List.getElem?_cons_succ]
      rw [show M.stk.length - lv = k by omega]
    · simp only [hl, if_false]
      by_cases h1 : lv = M.stk.length + 1
      · simp [h1]
      · simp [show ¬ lv ≤ M.stk.length + 1 by omega]
theorem R.enter {base : Nat} {μ : Mu} {M : Mem} {w : World} (h : R base μ M w) : R base μ M.enter w :=
  ⟨h.size, fun lv ix b hb => h.block lv ix b (by rw [← Mem.get_enter]; exact hb), fun lv ix hn => h.nomu lv ix (by rw [← Mem.get_enter]; exact hn), h.fresh, h.excl⟩

theorem Mem.get_leave {M : Mem} {lv ix : Nat} (h : lv < M.depth) : M.leave.get lv ix = M.get lv ix := by
  unfold Mem.get Mem.leave Mem.depth at *
  cases hs : M.stk with
  | nil => simp [hs] at h
  | cons fr rest =>
    simp only [hs, List.length_cons] at h
    simp only [List.tail_cons, List.length_cons]
    by_cases h0 : lv = 0
    · simp [h0]
    · simp only [h0, if_false, show lv ≤ rest.length by omega, show lv ≤ rest.length + 1 by omega, if_true]
      obtain ⟨k, hk⟩ : ∃ k, rest.length + 1 - lv = k + 1 := ⟨rest.length - lv, by omega⟩
      rw [hk, List.getElem?_cons_succ, show rest.length - lv = k by omega]
theorem Mem.get_leave_none {M : Mem} {lv ix : Nat} (h : M.depth ≤ lv) (h0 : 0 < M.depth) : M.leave.get lv ix = none := by
  unfold Mem.get Mem.leave Mem.depth at *
  simp only [List.length_tail]
  rw [if_neg (by omega), if_neg (by omega)]
theorem Mem.depth_leave {M : Mem} : M.leave.depth = M.depth - 1 := by simp [Mem.depth, Mem.leave]
theorem Mem.depth_enter {M : Mem} : M.enter.depth = M.depth + 1 := by simp [Mem.depth, Mem.enter]

def Mu.cut (μ : Mu) (d : Nat) : Mu := fun lv ix => if lv < d then μ lv ix else []
theorem R.leave {base : Nat} {μ : Mu} {M : Mem} {w : World} (h : R base μ M w) (h0 : 0 < M.depth) : R base (μ.cut M.depth) M.leave w := by
  have he : Ext μ (μ.cut M.depth) 0 := fun lv hl ix arr ha => ⟨arr, by unfold Mu.cut; rw [if_pos (by omega)]; exact ha, rfl, rfl, rfl, rfl, Nat.le_refl _, rfl⟩
  refine ⟨h.size, fun lv ix b hb => ?_, fun lv ix hn => ?_, fun lv ix arr ha => ?_, fun lv1 ix1 a1 lv2 ix2 a2 h1 h2 hbase heq => ?_⟩
  · rcases Nat.lt_or_ge lv M.depth with hl | hl
    · rw [Mem.get_leave hl] at hb
      unfold Mu.cut; rw [if_pos hl]
      exact (h.block lv ix b hb).pres he fun _ _ => rfl
    · rw [Mem.get_leave_none hl h0] at hb; cases hb
  · rcases Nat.lt_or_ge lv M.depth with hl | hl
    · rw [Mem.get_leave hl] at hn
      unfold Mu.cut; rw [if_pos hl]; exact h.nomu _ _ hn
    · unfold Mu.cut; rw [if_neg (by omega)]
  · unfold Mu.cut at ha
    split at ha
    · exact h.fresh _ _ _ ha
    · cases ha
  · unfold Mu.cut at h1 h2
    split at h1
    · split at h2
      · exact h.excl _ _ _ _ _ _ h1 h2 hbase heq
      · cases h2
    · cases h1
theorem Ext_cut {μ : Mu} {d d' : Nat} (h : d' < d) : Ext μ (μ.cut d) d' := fun lv hl ix arr ha => ⟨arr, by unfold Mu.cut; rw [if_pos (by omega)]; exact ha, rfl, rfl, rfl, rfl, Nat.le_refl _, rfl⟩

end Go.Abs
