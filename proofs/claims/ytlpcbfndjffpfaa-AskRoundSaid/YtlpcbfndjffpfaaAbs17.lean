/- What is read of slices, slices of one's own, and what is kept. -/
import Derived.Test.YtlpcbfndjffpfaaAbs16
set_option linter.unusedVariables false
set_option linter.unnecessarySimpa false
set_option linter.unusedSimpArgs false
namespace Go.Abs
open Go.RowKit (Below)

/-- A slice of n elements, of es cells each, whose cells are cs. -/
def Rd (M : Mem) (v : AV) (es : Nat) (cs : List AV) (n : Nat) : Prop :=
  (v = .nilsl ∧ cs = [] ∧ n = 0) ∨ ∃ a c r, v = .sl a n c ∧ getRow M a = some r ∧ r.es = es ∧ (r.cs.drop a.off).take (n * es) = cs ∧ cs.length = n * es

/-- What memory may become where only new blocks are made, and rows of one's own grow. -/
structure Step (k : Nat) (M M' : Mem) : Prop where
  d : M'.depth = M.depth
  h : M.heap.length ≤ M'.heap.length
  g : ∀ lv ix b, M.get lv ix = some b → M'.get lv ix = some b ∨ (lv = 0 ∧ k ≤ ix ∧ ∃ r ys, b = .row r ∧ M'.get lv ix = some (.row { r with cs := r.cs ++ ys, mv := true }))

theorem Step.refl (k : Nat) (M : Mem) : Step k M M := ⟨rfl, Nat.le_refl _, fun lv ix b h => .inl h⟩
theorem Step.trans {k : Nat} {M M' M'' : Mem} (h1 : Step k M M') (h2 : Step k M' M'') : Step k M M'' := by
  refine ⟨h2.d.trans h1.d, Nat.le_trans h1.h h2.h, fun lv ix b h => ?_⟩
  rcases h1.g lv ix b h with h3 | ⟨h4, h5, r, ys, rfl, h6⟩
  · exact h2.g lv ix b h3
  · rcases h2.g lv ix _ h6 with h7 | ⟨_, _, r', ys', h8, h9⟩
    · exact .inr ⟨h4, h5, r, ys, rfl, h7⟩
    · cases h8
      exact .inr ⟨h4, h5, r, ys ++ ys', rfl, by rw [h9]; simp⟩
theorem Step.mono {k k' : Nat} {M M' : Mem} (h : Step k M M') (hk : k' ≤ k) : Step k' M M' :=
  ⟨h.d, h.h, fun lv ix b hb => (h.g lv ix b hb).imp id fun ⟨h1, h2, h3⟩ => ⟨h1, Nat.le_trans hk h2, h3⟩⟩
theorem heap_get {M : Mem} {ix : Nat} : M.get 0 ix = M.heap[ix]? := by simp [Mem.get]
theorem heap_lt {M : Mem} {ix : Nat} {b : Block} (h : M.get 0 ix = some b) : ix < M.heap.length := by
  rw [heap_get] at h; exact (List.getElem?_eq_some_iff.1 h).1
theorem Step.keep {k : Nat} {M M' : Mem} (h : Step k M M') {ix : Nat} {b : Block} (hix : ix < k) (hb : M.get 0 ix = some b) : M'.get 0 ix = some b := by
  rcases h.g 0 ix b hb with h1 | ⟨_, h2, _⟩
  · exact h1
  · omega
theorem Step.all {M M' : Mem} (h : Step M.heap.length M M') {lv ix : Nat} {b : Block} (hb : M.get lv ix = some b) : M'.get lv ix = some b := by
  rcases h.g lv ix b hb with h1 | ⟨h0, h2, _⟩
  · exact h1
  · subst h0; have := heap_lt hb; omega

theorem Rd.step {k : Nat} {M M' : Mem} {v : AV} {es n : Nat} {cs : List AV} (h : Rd M v es cs n) (s : Step k M M') : Rd M' v es cs n := by
  rcases h with h | ⟨a, c, r, rfl, hr, he, hc, hl⟩
  · exact .inl h
  · refine .inr ⟨a, c, ?_⟩
    rcases s.g _ _ _ (getRow_get hr) with h1 | ⟨_, _, r', ys, hb, h1⟩
    · exact ⟨r, rfl, by simp [getRow, h1], he, hc, hl⟩
    · cases hb
      refine ⟨{ r with cs := r.cs ++ ys, mv := true }, rfl, by simp only [getRow, h1], he, ?_, hl⟩
      rw [← hc, List.length_take, List.length_drop] at hl
      rw [← hc]
      rcases Nat.le_total a.off r.cs.length with hle | hle
      · rw [List.drop_append_of_le_length hle, List.take_append_of_le_length (by rw [List.length_drop]; omega)]
      · have h0 : n * es = 0 := by omega
        rw [h0]; simp

theorem Rd.cells {M : Mem} {v : AV} {es n : Nat} {cs : List AV} (h : Rd M v es cs n) : sliceCells M v = some (cs, n) := by
  rcases h with ⟨rfl, rfl, rfl⟩ | ⟨a, c, r, rfl, hr, he, hc, hl⟩
  · rfl
  · unfold sliceCells
    simp only
    split
    · rename_i h0; subst h0
      rw [Nat.zero_mul] at hl
      rw [List.eq_nil_of_length_eq_zero hl]
    · rw [hr]; simp only [he, hc]
theorem Rd.len {M : Mem} {v : AV} {es n : Nat} {cs : List AV} (h : Rd M v es cs n) : cs.length = n * es := by
  rcases h with ⟨rfl, rfl, rfl⟩ | ⟨a, c, r, rfl, hr, he, hc, hl⟩
  · simp
  · exact hl
theorem Rd.rowSize {M : Mem} {v : AV} {es n : Nat} {cs : List AV} (h : Rd M v es cs n) : rowSize M es v = true := by
  rcases h with ⟨rfl, rfl, rfl⟩ | ⟨a, c, r, rfl, hr, he, hc, hl⟩
  · rfl
  · simp [Abs.rowSize, hr, he]
theorem Rd.content {M : Mem} {v : AV} {es n : Nat} {cs : List AV} (h : Rd M v es cs n) : contentA M v = some (cs, n) := by
  have hcells := h.cells
  rcases h with ⟨rfl, rfl, rfl⟩ | ⟨a, c, r, rfl, hr, he, hc, hl⟩ <;> exact hcells
theorem Rd.nil {M : Mem} {es : Nat} : Rd M .nilsl es [] 0 := .inl ⟨rfl, rfl, rfl⟩

section
variable {P : Program} {M M' : Mem} {t e : TypeId} {i j : TI} {v : AV} {es n : Nat} {cs : List AV}
theorem len_rd (h : Rd M v es cs n) (hi : ti P t = some i) (hd : i.desc = .slice e) : lenA P t v M = some (.int .i64 n) := by
  unfold lenA
  rw [hi]; simp only [hd]
  rcases h with ⟨rfl, rfl, rfl⟩ | ⟨a, c, r, rfl, hr, he, hc, hl⟩ <;> rfl
/-- A cut. -/
theorem slice_rd (h : Rd M v es cs n) (hi : ti P t = some i) (hd : i.desc = .slice e) (hj : ti P e = some j) (hs : j.size = es) {lo hi' : Option AV} {l u : Nat} (hlo : onat 0 lo = some l) (hhi : onat n hi' = some u) (hlu : l ≤ u) (hun : u ≤ n) :
    ∃ v', slices P t v lo hi' none M = some v' ∧ Rd M v' es ((cs.take (u * es)).drop (l * es)) (u - l) := by
  unfold slices
  rw [hi]
  simp only [hd]
  unfold sliceA
  rw [hi]
  simp only [hd]
  rcases h with ⟨rfl, rfl, rfl⟩ | ⟨a, c, r, rfl, hr, he, hc, hl⟩
  · have hu0 : u = 0 := by omega
    have hl0 : l = 0 := by omega
    subst hu0; subst hl0
    simp only [hj, hlo, hhi, show onat 0 (none : Option AV) = some 0 from rfl]
    exact ⟨.nilsl, by simp, .inl ⟨rfl, by simp, rfl⟩⟩
  · simp only [hj, hr, hlo, hhi]
    rw [if_pos ⟨hlu, hun, by rw [he, hs]⟩]
    refine ⟨_, rfl, .inr ⟨_, _, r, rfl, hr, he, ?_, ?_⟩⟩
    · rw [← hc]
      simp only [hs]
      rw [List.take_take, Nat.min_eq_left (Nat.mul_le_mul_right _ hun), List.drop_take, List.drop_drop, Nat.sub_mul]
    · rw [List.length_drop, List.length_take, hl, Nat.min_eq_left (Nat.mul_le_mul_right _ hun), Nat.sub_mul]
end

/-- A row of one's own: it begins at its row's first cell, and ends at its last one. -/
def Own (k : Nat) (M : Mem) (v : AV) (e es : Nat) (cs : List AV) (n : Nat) : Prop :=
  (v = .nilsl ∧ cs = [] ∧ n = 0) ∨ ∃ ix c mv, v = .sl ⟨0, ix, 0⟩ n c ∧ k ≤ ix ∧ (c = none ∨ c = some n) ∧ M.get 0 ix = some (.row ⟨e, es, cs, false, mv⟩) ∧ cs.length = n * es

theorem Own.rd {k : Nat} {M : Mem} {v : AV} {e es n : Nat} {cs : List AV} (h : Own k M v e es cs n) : Rd M v es cs n := by
  rcases h with h | ⟨ix, c, mv, rfl, hk, hc, hg, hl⟩
  · exact .inl h
  · exact .inr ⟨_, _, ⟨e, es, cs, false, mv⟩, rfl, by simp only [getRow, hg], rfl, by simp [← hl], hl⟩
theorem Own.nil {k : Nat} {M : Mem} {e es : Nat} : Own k M .nilsl e es [] 0 := .inl ⟨rfl, rfl, rfl⟩
theorem Own.mono {k k' : Nat} {M : Mem} {v : AV} {e es n : Nat} {cs : List AV} (h : Own k M v e es cs n) (hk : k' ≤ k) : Own k' M v e es cs n :=
  h.imp id fun ⟨ix, c, mv, h1, h2, h3⟩ => ⟨ix, c, mv, h1, Nat.le_trans hk h2, h3⟩
/-- What others make leaves it alone. -/
theorem Own.step {k : Nat} {M M' : Mem} {v : AV} {e es n : Nat} {cs : List AV} (h : Own k M v e es cs n) (s : Step M.heap.length M M') : Own k M' v e es cs n :=
  h.imp id fun ⟨ix, c, mv, h1, h2, h3, h4, h5⟩ => ⟨ix, c, mv, h1, h2, h3, s.all h4, h5⟩
theorem Own.len {k : Nat} {M : Mem} {v : AV} {e es n : Nat} {cs : List AV} (h : Own k M v e es cs n) : cs.length = n * es := h.rd.len

theorem set_self {M : Mem} {ix : Nat} {b b0 : Block} (h : M.get 0 ix = some b0) : (M.set 0 ix b).get 0 ix = some b := Mem.get_set_self h
theorem Step.new (k : Nat) {M : Mem} (h0 : 0 < M.depth) (hp : Bool) (b : Block) : Step k M (M.new hp b) := by
  refine ⟨Mem.new_depth h0, ?_, fun lv ix b' hb => .inl ?_⟩
  · cases hp <;> simp [Mem.new, Mem.pushH, Mem.pushL]
  · rw [Mem.new_ne h0]
    · exact hb
    · rintro ⟨rfl, rfl⟩
      rw [Mem.new_none h0] at hb; cases hb

section
variable {P : Program} {k : Nat} {M : Mem} {t1 t2 e : TypeId} {i i2 j : TI} {s x : AV} {es n m : Nat} {cs ys : List AV}
/-- append to a slice of one's own. -/
theorem append_own (h0 : 0 < M.depth) (hk : k ≤ M.heap.length) (hi : ti P t1 = some i) (hd : i.desc = .slice e) (hj : ti P e = some j) (hi2 : ti P t2 = some i2) (hd2 : i2.desc.isSeq = true) (hes : j.size = es)
    (hpos : 0 < es ∧ 0 < j.bytes ∧ j.zero.cells.length = j.size ∧ j.zero.cells.all AV.st = true) (hs : Own k M s e es cs n) (hx : contentA M x = some (ys, m)) (hxr : rowSize M es x = true) (hyl : ys.length = m * es) (hst : ys.all AV.st = true) (hb : (n + m) * j.bytes ≤ 140737488355328) :
    ∃ v' M', appendA P t1 t2 true s x M = some (v', M') ∧ Own k M' v' e es (cs ++ ys) (n + m) ∧ Step k M M' := by
  unfold appendA
  rw [hi, hi2]
  simp only [hd, hj, hd2, hx]
  rw [if_neg (by simp), if_pos ⟨by rw [hes]; exact hxr, hst, by rw [hes]; exact hpos.1, hpos.2⟩]
  have hcases : m = 0 ∧ ys = [] ∨ 0 < m := by
    rcases Nat.eq_zero_or_pos m with h | h
    · subst h; exact .inl ⟨rfl, by simpa using hyl⟩
    · exact .inr h
  rcases hs with ⟨rfl, rfl, rfl⟩ | ⟨ix, c, mv, rfl, hki, hc, hg, hl⟩
  · simp only [Nat.zero_add] at hb
    rcases hcases with ⟨rfl, rfl⟩ | hm
    · exact ⟨.nilsl, M, by simp, .inl ⟨rfl, rfl, rfl⟩, Step.refl _ _⟩
    · rw [if_neg (by omega), if_pos hb]
      refine ⟨_, _, rfl, .inr ⟨M.heap.length, none, false, by simp [Mem.at_], hk, .inl rfl, ?_, ?_⟩, Step.new k h0 _ _⟩
      · rw [hes]; exact Mem.new_get (hp := true) h0
      · simp [hyl]
  · rcases hcases with ⟨rfl, rfl⟩ | hm
    · simp only [if_true]
      exact ⟨_, _, rfl, .inr ⟨ix, c, mv, by simp, hki, hc, by simpa using hg, by simpa using hl⟩, Step.refl _ _⟩
    · simp only [if_neg (show ¬ m = 0 by omega)]
      have hr : getRow M ⟨0, ix, 0⟩ = some ⟨e, es, cs, false, mv⟩ := by simp [getRow, hg]
      simp only [hr, hes, if_true]
      rcases hc with rfl | rfl
      · have hlt : ¬ (0 + (n + m) * es ≤ cs.length) := by
          rw [hl, Nat.add_mul]
          have := Nat.mul_pos hm hpos.1
          omega
        simp only
        rw [if_neg hlt, if_pos ⟨trivial, by rw [hl]; omega, trivial, hb⟩]
        refine ⟨.sl ⟨0, ix, 0⟩ (n + m) none, M.set 0 ix (.row ⟨e, es, cs ++ ys, false, true⟩), rfl, .inr ⟨ix, none, true, rfl, hki, .inl rfl, set_self hg, by simp [hl, hyl, Nat.add_mul]⟩, ?_, ?_, fun lv ix' b hb => ?_⟩
        · simp [Mem.depth, Mem.set]
        · simp [Mem.set]
        · by_cases he : lv = 0 ∧ ix' = ix
          · obtain ⟨rfl, rfl⟩ := he
            rw [hg] at hb; cases hb
            exact .inr ⟨rfl, hki, _, ys, rfl, set_self hg⟩
          · exact .inl (by rw [Mem.get_set_ne he]; exact hb)
      · simp only
        simp only [if_neg (show ¬ (n + m ≤ n) by omega), if_pos hb]
        have hcells : sliceCells M (.sl ⟨0, ix, 0⟩ n (some n)) = some (cs, n) := (Own.rd (k := k) (.inr ⟨ix, some n, mv, rfl, hki, .inr rfl, hg, hl⟩) : Rd M _ es cs n).cells
        rw [hcells]
        refine ⟨.sl (M.at_ true) (n + m) none, _, rfl, .inr ⟨M.heap.length, none, false, by simp [Mem.at_], hk, .inl rfl, Mem.new_get (hp := true) h0, by simp [hl, hyl, Nat.add_mul]⟩, Step.new k h0 _ _⟩
end
end Go.Abs
