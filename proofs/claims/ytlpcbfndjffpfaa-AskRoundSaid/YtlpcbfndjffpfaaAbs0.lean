/- An abstract machine over the model: its values, its memory, and how they stand to the model's world. -/
import Derived.Calls
import Derived.Below
import Derived.Laws.Cells
set_option linter.unusedVariables false
set_option linter.unnecessarySimpa false
set_option linter.unusedSimpArgs false
namespace Go.Abs
open Go.RowKit (Below)

/-- An address: level 0 is the heap, level n + 1 the n-th frame from the bottom. -/
structure AA where
  lv : Nat
  ix : Nat
  off : Nat
  deriving DecidableEq, Repr

inductive AV where
  | bool (b : Bool)
  | int (k : IntKind) (n : Int)
  | str (l : List UInt8)
  | ptr (a : AA)
  | nilptr
  | sl (a : AA) (len : Nat) (cap : Option Nat)
  | nilsl
  | map (i : Nat)
  | nilmap
  | chan (i : Nat)
  | nilchan
  | fn (f : Fn) (first cap : List AV)
  | nilfn
  | iface (t : TypeId) (v : AV)
  | niliface
  | agg (cs : List AV)
  | tup (vs : List AV)
  | undef
  deriving Inhabited

/-- Where the cells from lo on (below len) of an abstract row lie: a block, where it begins there, how many cells there are from there on, an element's cells. -/
structure Arr where
  blk : Nat
  sh : Nat
  lo : Nat
  len : Nat
  tot : Nat
  es : Nat

abbrev Mu := Nat → Nat → List Arr

mutual
def VR (μ : Mu) (lim : Nat) : AV → Value → Prop
  | .bool b, v => v = .bool b
  | .int k n, v => v = .int k n
  | .str l, v => v = .string ⟨⟨l⟩⟩
  | .ptr a, v => a.lv ≤ lim ∧ ∃ arr, arr ∈ μ a.lv a.ix ∧ arr.lo ≤ a.off ∧ a.off < arr.len ∧ v = .pointer (some ⟨arr.blk, arr.sh + (a.off - arr.lo), none⟩)
  | .nilptr, v => v = .pointer none
  | .sl a n c, v => a.lv ≤ lim ∧ ∃ blk o sp cap, v = .slice (some ⟨blk, o, sp⟩) n cap ∧ n ≤ cap ∧ (∀ m, c = some m → cap = m) ∧
      ((n = 0 ∧ cap = 0) ∨ sp = none ∧ ∃ arr, arr ∈ μ a.lv a.ix ∧ blk = arr.blk ∧ arr.lo ≤ a.off ∧ o = arr.sh + (a.off - arr.lo) ∧ a.off + n * arr.es ≤ arr.len ∧ a.off + cap * arr.es ≤ arr.lo + arr.tot ∧ (c = none → a.off + cap * arr.es = arr.lo + arr.tot))
  | .nilsl, v => v = .slice none 0 0
  | .map i, v => ∃ arr, arr ∈ μ 0 i ∧ v = .map (some arr.blk)
  | .nilmap, v => v = .map none
  | .chan i, v => ∃ arr, arr ∈ μ 0 i ∧ v = .chan (some arr.blk)
  | .nilchan, v => v = .chan none
  | .fn f xs ys, v => ∃ a b, v = .func f a b ∧ VRs μ lim xs a.toList ∧ VRs μ lim ys b.toList
  | .nilfn, v => v = .nilFunc
  | .iface t x, v => ∃ y, v = .iface t y ∧ VR μ lim x y
  | .niliface, v => v = .nilIface
  | .agg cs, v => ∃ a, v = .agg a ∧ VRs μ lim cs a.toList
  | .tup cs, v => ∃ a, v = .tuple a ∧ VRs μ lim cs a.toList
  | .undef, _ => True
def VRs (μ : Mu) (lim : Nat) : List AV → List Value → Prop
  | [], vs => vs = []
  | x :: xs, vs => ∃ y ys, vs = y :: ys ∧ VR μ lim x y ∧ VRs μ lim xs ys
end

theorem VRs_nil {μ : Mu} {lim : Nat} : VRs μ lim [] [] := by simp [VRs]
theorem VRs_cons {μ : Mu} {lim : Nat} {x : AV} {xs : List AV} {y : Value} {ys : List Value} (h : VR μ lim x y) (hs : VRs μ lim xs ys) : VRs μ lim (x :: xs) (y :: ys) := by
  simp only [VRs]; exact ⟨y, ys, rfl, h, hs⟩

theorem VRs_length {μ : Mu} {lim : Nat} : ∀ {xs : List AV} {ys : List Value}, VRs μ lim xs ys → ys.length = xs.length
  | [], ys, h => by simp [VRs] at h; simp [h]
  | x :: xs, ys, h => by
    simp only [VRs] at h
    obtain ⟨y, ys', rfl, _, h2⟩ := h
    simp [VRs_length h2]

theorem VRs_get {μ : Mu} {lim : Nat} : ∀ {xs : List AV} {ys : List Value} (i : Nat) {x : AV}, VRs μ lim xs ys → xs[i]? = some x → ∃ y, ys[i]? = some y ∧ VR μ lim x y
  | [], ys, i, x, h, hi => by simp at hi
  | x0 :: xs, ys, 0, x, h, hi => by
    simp only [VRs] at h
    obtain ⟨y, ys', rfl, h1, h2⟩ := h
    simp at hi; subst hi
    exact ⟨y, by simp, h1⟩
  | x0 :: xs, ys, i + 1, x, h, hi => by
    simp only [VRs] at h
    obtain ⟨y, ys', rfl, h1, h2⟩ := h
    simp at hi
    obtain ⟨z, hz, hv⟩ := VRs_get i h2 hi
    exact ⟨z, by simpa using hz, hv⟩

theorem VRs_of_get {μ : Mu} {lim : Nat} : ∀ {xs : List AV} {ys : List Value}, ys.length = xs.length → (∀ (i : Nat) (x : AV), xs[i]? = some x → ∃ y, ys[i]? = some y ∧ VR μ lim x y) → VRs μ lim xs ys
  | [], ys, hl, h => by
    cases ys with
    | nil => simp [VRs]
    | cons y ys => simp at hl
  | x :: xs, ys, hl, h => by
    cases ys with
    | nil => simp at hl
    | cons y ys =>
      refine VRs_cons ?_ (VRs_of_get (by simpa using hl) fun i x' hx => ?_)
      · obtain ⟨z, hz, hv⟩ := h 0 x (by simp)
        simp at hz; subst hz; exact hv
      · obtain ⟨z, hz, hv⟩ := h (i + 1) x' (by simpa using hx)
        exact ⟨z, by simpa using hz, hv⟩

theorem VRs_append {μ : Mu} {lim : Nat} : ∀ {xs xs' : List AV} {ys ys' : List Value}, VRs μ lim xs ys → VRs μ lim xs' ys' → VRs μ lim (xs ++ xs') (ys ++ ys')
  | [], xs', ys, ys', h, h' => by simp [VRs] at h; subst h; simpa using h'
  | x :: xs, xs', ys, ys', h, h' => by
    simp only [VRs] at h
    obtain ⟨y, ys0, rfl, h1, h2⟩ := h
    exact VRs_cons h1 (VRs_append h2 h')

theorem VRs_take {μ : Mu} {lim : Nat} (n : Nat) {xs : List AV} {ys : List Value} (h : VRs μ lim xs ys) : VRs μ lim (xs.take n) (ys.take n) := by
  have hl := VRs_length h
  refine VRs_of_get (by simp [hl]) fun i x hx => ?_
  rw [List.getElem?_take] at hx
  split at hx
  · obtain ⟨y, hy, hv⟩ := VRs_get i h hx
    exact ⟨y, by rw [List.getElem?_take, if_pos (by assumption)]; exact hy, hv⟩
  · simp at hx

theorem VRs_drop {μ : Mu} {lim : Nat} (n : Nat) {xs : List AV} {ys : List Value} (h : VRs μ lim xs ys) : VRs μ lim (xs.drop n) (ys.drop n) := by
  have hl := VRs_length h
  refine VRs_of_get (by simp [hl]) fun i x hx => ?_
  rw [List.getElem?_drop] at hx
  obtain ⟨y, hy, hv⟩ := VRs_get (n + i) h hx
  exact ⟨y, by rw [List.getElem?_drop]; exact hy, hv⟩

theorem VRs_set {μ : Mu} {lim : Nat} (i : Nat) {xs : List AV} {ys : List Value} {x : AV} {y : Value} (h : VRs μ lim xs ys) (hv : VR μ lim x y) : VRs μ lim (xs.set i x) (ys.set i y) := by
  have hl := VRs_length h
  refine VRs_of_get (by simp [hl]) fun j x' hx => ?_
  rw [List.getElem?_set] at hx
  by_cases hj : i = j
  · subst hj
    rw [if_pos rfl] at hx
    split at hx
    · simp at hx; subst hx
      exact ⟨y, by rw [List.getElem?_set, if_pos rfl, if_pos (by omega)], hv⟩
    · simp at hx
  · rw [if_neg hj] at hx
    obtain ⟨z, hz, hv'⟩ := VRs_get j h hx
    exact ⟨z, by rw [List.getElem?_set, if_neg hj]; exact hz, hv'⟩

theorem VRs_replicate {μ : Mu} {lim : Nat} {x : AV} {y : Value} (h : VR μ lim x y) : ∀ n, VRs μ lim (List.replicate n x) (List.replicate n y)
  | 0 => by simp [VRs]
  | n + 1 => VRs_cons h (VRs_replicate h n)

/-- What an abstract map of memory grows by. -/
def Ext (μ μ' : Mu) (d : Nat) : Prop := ∀ lv, lv ≤ d → ∀ ix arr, arr ∈ μ lv ix → ∃ arr', arr' ∈ μ' lv ix ∧ arr'.blk = arr.blk ∧ arr'.sh = arr.sh ∧ arr'.lo = arr.lo ∧ arr'.es = arr.es ∧ arr.len ≤ arr'.len ∧ arr'.tot = arr.tot

theorem Ext.refl (μ : Mu) (d : Nat) : Ext μ μ d := fun _ _ _ arr h => ⟨arr, h, rfl, rfl, rfl, rfl, Nat.le_refl _, rfl⟩
theorem Ext.trans {μ μ' μ'' : Mu} {d : Nat} (h : Ext μ μ' d) (k : Ext μ' μ'' d) : Ext μ μ'' d := fun lv hl ix arr ha => by
  obtain ⟨a1, h1, b1, c1, g1, d1, e1, f1⟩ := h lv hl ix arr ha
  obtain ⟨a2, h2, b2, c2, g2, d2, e2, f2⟩ := k lv hl ix a1 h1
  exact ⟨a2, h2, b2.trans b1, c2.trans c1, g2.trans g1, d2.trans d1, Nat.le_trans e1 e2, f2.trans f1⟩
theorem Ext.mono {μ μ' : Mu} {d d' : Nat} (h : Ext μ μ' d) (hd : d' ≤ d) : Ext μ μ' d' := fun lv hl => h lv (Nat.le_trans hl hd)

mutual
theorem VR_ext {μ μ' : Mu} {d lim : Nat} (he : Ext μ μ' d) (hl : lim ≤ d) : ∀ {x : AV} {v : Value}, VR μ lim x v → VR μ' lim x v
  | .bool b, v, h | .int k n, v, h | .str l, v, h | .nilptr, v, h | .nilsl, v, h | .nilmap, v, h | .nilchan, v, h | .nilfn, v, h | .niliface, v, h | .undef, v, h => by
    simpa only [VR] using h
  | .ptr a, v, h => by
    simp only [VR] at h ⊢
    obtain ⟨h0, arr, ha, ho', ho, rfl⟩ := h
    obtain ⟨a2, h2, b2, c2, g2, d2, e2, f2⟩ := he a.lv (by omega) a.ix arr ha
    exact ⟨h0, a2, h2, by omega, by omega, by rw [b2, c2, g2]⟩
  | .sl a n c, v, h => by
    simp only [VR] at h ⊢
    obtain ⟨h0, blk, o, sp, cap, rfl, hn, hc, h⟩ := h
    refine ⟨h0, blk, o, sp, cap, rfl, hn, hc, ?_⟩
    rcases h with h | ⟨hsp, arr, ha, hb, ho', ho, h3, h4, h5⟩
    · exact .inl h
    · obtain ⟨a2, h2, b2, c2, g2, d2, e2, f2⟩ := he a.lv (by omega) a.ix arr ha
      exact .inr ⟨hsp, a2, h2, by omega, by omega, by omega, by rw [d2]; omega, by rw [d2, f2, g2]; omega, by rw [d2, f2, g2]; exact h5⟩
  | .map i, v, h => by
    simp only [VR] at h ⊢
    obtain ⟨arr, ha, rfl⟩ := h
    obtain ⟨a2, h2, b2, _⟩ := he 0 (Nat.zero_le _) i arr ha
    exact ⟨a2, h2, by rw [b2]⟩
  | .chan i, v, h => by
    simp only [VR] at h ⊢
    obtain ⟨arr, ha, rfl⟩ := h
    obtain ⟨a2, h2, b2, _⟩ := he 0 (Nat.zero_le _) i arr ha
    exact ⟨a2, h2, by rw [b2]⟩
  | .fn f xs ys, v, h => by
    simp only [VR] at h ⊢
    obtain ⟨a, b, rfl, h1, h2⟩ := h
    exact ⟨a, b, rfl, VRs_ext he hl h1, VRs_ext he hl h2⟩
  | .iface t x, v, h => by
    simp only [VR] at h ⊢
    obtain ⟨y, rfl, h1⟩ := h
    exact ⟨y, rfl, VR_ext he hl h1⟩
  | .agg cs, v, h => by
    simp only [VR] at h ⊢
    obtain ⟨a, rfl, h1⟩ := h
    exact ⟨a, rfl, VRs_ext he hl h1⟩
  | .tup cs, v, h => by
    simp only [VR] at h ⊢
    obtain ⟨a, rfl, h1⟩ := h
    exact ⟨a, rfl, VRs_ext he hl h1⟩
theorem VRs_ext {μ μ' : Mu} {d lim : Nat} (he : Ext μ μ' d) (hl : lim ≤ d) : ∀ {xs : List AV} {vs : List Value}, VRs μ lim xs vs → VRs μ' lim xs vs
  | [], vs, h => by simpa only [VRs] using h
  | x :: xs, vs, h => by
    simp only [VRs] at h ⊢
    obtain ⟨y, ys, rfl, h1, h2⟩ := h
    exact ⟨y, ys, rfl, VR_ext he hl h1, VRs_ext he hl h2⟩
end

/-! ### values that may lie in memory: one cell each, no address of a frame -/
mutual
def AV.lev0 : AV → Bool
  | .ptr a => a.lv == 0
  | .sl a _ _ => a.lv == 0
  | .fn _ xs ys => lev0s xs && lev0s ys
  | .iface _ x => x.lev0
  | .agg cs => lev0s cs
  | .tup cs => lev0s cs
  | .undef => false
  | _ => true
def lev0s : List AV → Bool
  | [] => true
  | x :: xs => x.lev0 && lev0s xs
end

mutual
theorem VR_lev0 {μ : Mu} {lim lim' : Nat} : ∀ {x : AV} {v : Value}, x.lev0 = true → VR μ lim x v → VR μ lim' x v
  | .bool b, v, _, h | .int k n, v, _, h | .str l, v, _, h | .nilptr, v, _, h | .nilsl, v, _, h | .nilmap, v, _, h | .nilchan, v, _, h | .nilfn, v, _, h | .niliface, v, _, h | .map _, v, _, h | .chan _, v, _, h => by
    simpa only [VR] using h
  | .undef, v, h0, h => by simp [AV.lev0] at h0
  | .ptr a, v, h0, h => by
    simp only [AV.lev0, beq_iff_eq] at h0
    simp only [VR] at h ⊢
    exact ⟨by omega, h.2⟩
  | .sl a n c, v, h0, h => by
    simp only [AV.lev0, beq_iff_eq] at h0
    simp only [VR] at h ⊢
    exact ⟨by omega, h.2⟩
  | .fn f xs ys, v, h0, h => by
    simp only [AV.lev0, Bool.and_eq_true] at h0
    simp only [VR] at h ⊢
    obtain ⟨a, b, rfl, h1, h2⟩ := h
    exact ⟨a, b, rfl, VRs_lev0 h0.1 h1, VRs_lev0 h0.2 h2⟩
  | .iface t x, v, h0, h => by
    simp only [AV.lev0] at h0
    simp only [VR] at h ⊢
    obtain ⟨y, rfl, h1⟩ := h
    exact ⟨y, rfl, VR_lev0 h0 h1⟩
  | .agg cs, v, h0, h => by
    simp only [AV.lev0] at h0
    simp only [VR] at h ⊢
    obtain ⟨a, rfl, h1⟩ := h
    exact ⟨a, rfl, VRs_lev0 h0 h1⟩
  | .tup cs, v, h0, h => by
    simp only [AV.lev0] at h0
    simp only [VR] at h ⊢
    obtain ⟨a, rfl, h1⟩ := h
    exact ⟨a, rfl, VRs_lev0 h0 h1⟩
theorem VRs_lev0 {μ : Mu} {lim lim' : Nat} : ∀ {xs : List AV} {vs : List Value}, lev0s xs = true → VRs μ lim xs vs → VRs μ lim' xs vs
  | [], vs, _, h => by simpa only [VRs] using h
  | x :: xs, vs, h0, h => by
    simp only [lev0s, Bool.and_eq_true] at h0
    simp only [VRs] at h ⊢
    obtain ⟨y, ys, rfl, h1, h2⟩ := h
    exact ⟨y, ys, rfl, VR_lev0 h0.1 h1, VRs_lev0 h0.2 h2⟩
end

mutual
theorem VR_lim {μ : Mu} {lim lim' : Nat} (hl : lim ≤ lim') : ∀ {x : AV} {v : Value}, VR μ lim x v → VR μ lim' x v
  | .bool b, v, h | .int k n, v, h | .str l, v, h | .nilptr, v, h | .nilsl, v, h | .nilmap, v, h | .nilchan, v, h | .nilfn, v, h | .niliface, v, h | .map _, v, h | .chan _, v, h | .undef, v, h => by
    simpa only [VR] using h
  | .ptr a, v, h => by
    simp only [VR] at h ⊢
    exact ⟨by omega, h.2⟩
  | .sl a n c, v, h => by
    simp only [VR] at h ⊢
    exact ⟨by omega, h.2⟩
  | .fn f xs ys, v, h => by
    simp only [VR] at h ⊢
    obtain ⟨a, b, rfl, h1, h2⟩ := h
    exact ⟨a, b, rfl, VRs_lim hl h1, VRs_lim hl h2⟩
  | .iface t x, v, h => by
    simp only [VR] at h ⊢
    obtain ⟨y, rfl, h1⟩ := h
    exact ⟨y, rfl, VR_lim hl h1⟩
  | .agg cs, v, h => by
    simp only [VR] at h ⊢
    obtain ⟨a, rfl, h1⟩ := h
    exact ⟨a, rfl, VRs_lim hl h1⟩
  | .tup cs, v, h => by
    simp only [VR] at h ⊢
    obtain ⟨a, rfl, h1⟩ := h
    exact ⟨a, rfl, VRs_lim hl h1⟩
theorem VRs_lim {μ : Mu} {lim lim' : Nat} (hl : lim ≤ lim') : ∀ {xs : List AV} {vs : List Value}, VRs μ lim xs vs → VRs μ lim' xs vs
  | [], vs, h => by simpa only [VRs] using h
  | x :: xs, vs, h => by
    simp only [VRs] at h ⊢
    obtain ⟨y, ys, rfl, h1, h2⟩ := h
    exact ⟨y, ys, rfl, VR_lim hl h1, VRs_lim hl h2⟩
end

/-- One cell's value, to lie in memory. -/
def AV.st (v : AV) : Bool := v.lev0 && (match v with | .agg _ | .tup _ => false | _ => true)
def AV.cells : AV → List AV
  | .agg cs => cs
  | v => [v]

theorem VR_st_one {μ : Mu} {lim : Nat} {x : AV} {v : Value} (hs : x.st = true) (h : VR μ lim x v) : v.oneCell' = true := by
  cases x <;> simp [AV.st, AV.lev0] at hs <;> simp only [VR] at h
  all_goals first
    | (subst h; rfl)
    | (obtain ⟨_, _, _, _, _, rfl⟩ := h; rfl)
    | (obtain ⟨_, _, _, _, rfl, _⟩ := h; rfl)
    | (obtain ⟨_, _, _, _, _, rfl, _⟩ := h; rfl)
    | (obtain ⟨_, _, rfl⟩ := h; rfl)
    | (obtain ⟨_, _, rfl, _⟩ := h; rfl)
    | (obtain ⟨_, rfl, _⟩ := h; rfl)

theorem AV.st_lev0 {x : AV} (hs : x.st = true) : x.lev0 = true := by
  simp only [AV.st, Bool.and_eq_true] at hs; exact hs.1

theorem VR_cells {μ : Mu} {lim : Nat} {x : AV} {v : Value} (h : VR μ lim x v) (hx : x.cells.all AV.st = true) : VRs μ lim x.cells v.cells.toList := by
  cases x
  case agg cs =>
    simp only [VR] at h
    obtain ⟨a, rfl, h⟩ := h
    exact h
  all_goals
    simp only [AV.cells, List.all_cons, List.all_nil, Bool.and_true] at hx
    have h1 := VR_st_one hx h
    have : v.cells = #[v] := by cases v <;> simp_all [Value.cells, Value.oneCell']
    rw [this]
    exact VRs_cons h VRs_nil

theorem VRs_one {μ : Mu} {lim : Nat} {xs : List AV} {vs : List Value} (hx : xs.all AV.st = true) (h : VRs μ lim xs vs) : ∀ v ∈ vs, v.oneCell' = true := by
  intro v hv
  obtain ⟨i, hi⟩ := List.getElem?_of_mem hv
  have hl := VRs_length h
  have hlt : i < xs.length := by have := (List.getElem?_eq_some_iff.1 hi).1; omega
  obtain ⟨y, hy, hr⟩ := VRs_get i h (List.getElem?_eq_getElem hlt)
  rw [hi] at hy; cases hy
  exact VR_st_one (by rw [List.all_eq_true] at hx; exact hx _ (List.getElem_mem hlt)) hr

theorem lev0s_of_all {xs : List AV} (hx : xs.all AV.st = true) : lev0s xs = true := by
  induction xs with
  | nil => rfl
  | cons x xs ih =>
    simp only [List.all_cons, Bool.and_eq_true] at hx
    simp [lev0s, AV.st_lev0 hx.1, ih hx.2]

end Go.Abs
