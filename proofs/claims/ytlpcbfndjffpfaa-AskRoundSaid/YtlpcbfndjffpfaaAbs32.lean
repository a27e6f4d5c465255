/- Structs within structs; lists of structs; equality of structs. -/
import Derived.Test.YtlpcbfndjffpfaaAbs31
import Derived.Test.YtlpcbfndjffpfaaAbs28
set_option linter.unusedVariables false
set_option linter.unusedSimpArgs false
namespace Go.Abs
section
variable {P : Program} {H H' : List Block} {S : List (List Block)} {M : Mem} {t t1 e : TypeId} {i j : TI} {a : AA} {r : Row} {vs : List AV} {v : AV}
/-- A struct within a row. -/
theorem load_agg (hi : ti P t = some i) (ha : i.isAgg = true) (hr : getRow M a = some r) (h2 : a.off % r.es + i.size ≤ r.es) : loadA P t (.ptr a) M = some (.agg ((r.cs.drop a.off).take i.size)) := by
  unfold loadA
  simp only [hi, hr, ha, if_true]
  rw [if_pos h2]
theorem store_agg (hi : ti P t = some i) (hr : getRow M a = some r) (hro : r.ro = false) (hmv : r.mv = false) (h2 : a.off % r.es + i.size ≤ r.es) (hv : vs.length = i.size) (hst : vs.all AV.st = true) : stores P t (.ptr a) (.agg vs) M = some (.undef, M.set a.lv a.ix (.row { r with cs := spl r.cs a.off vs })) := by
  unfold stores storeA
  simp only [hi, hr]
  have e : (AV.agg vs).cells = vs := rfl
  rw [e, if_pos ⟨hro, hmv, hst, hv, h2⟩]; rfl
theorem put_mid : ∀ (ys mid pre post : List AV), mid.length = ys.length → spl (pre ++ (mid ++ post)) pre.length ys = pre ++ (ys ++ post)
  | [], mid, pre, post, h => by
    have : mid = [] := List.eq_nil_of_length_eq_zero (by simpa using h)
    subst this; rfl
  | y :: ys, [], pre, post, h => by simp at h
  | y :: ys, c :: mid, pre, post, h => by
    rw [spl]
    have e : (pre ++ (c :: mid ++ post)).set pre.length y = (pre ++ [y]) ++ (mid ++ post) := by simp
    rw [e]
    have := put_mid ys mid (pre ++ [y]) post (by simpa using h)
    simpa using this
/-- One part more. -/
theorem fill1 {place : Nat → Option (Nat × Nat)} {cs : List AV} {i off size : Nat} {v : AV} {rest : List (Nat × AV)} (hp : place i = some (off, size)) (h1 : v.cells.length = size) (h2 : off + size ≤ cs.length) (h3 : v.cells.all AV.st = true) : fillA place cs ((i, v) :: rest) = fillA place (spl cs off v.cells) rest := by
  simp only [fillA, hp]; rw [if_pos ⟨h1, h2, h3⟩]
theorem flat_len_eq {α : Type} {f : α → List AV} {m : Nat} (hf : ∀ x, (f x).length = m) : ∀ (l : List α), (l.flatMap f).length = l.length * m
  | [] => by simp
  | x :: l => by rw [List.flatMap_cons, List.length_append, flat_len_eq hf l, hf, List.length_cons, Nat.add_mul]; omega
theorem chunk_at {α : Type} {f : α → List AV} {m : Nat} (hf : ∀ x, (f x).length = m) : ∀ (l : List α) (i : Nat) (hi : i < l.length), ((l.flatMap f).drop (i * m)).take m = f l[i]
  | x :: l, 0, _ => by
    simp only [List.flatMap_cons, Nat.zero_mul, List.drop_zero, List.getElem_cons_zero]
    rw [List.take_append_of_le_length (by rw [hf]; exact Nat.le_refl _), List.take_of_length_le (by rw [hf]; exact Nat.le_refl _)]
  | x :: l, i + 1, hi => by
    simp only [List.flatMap_cons, List.getElem_cons_succ]
    rw [show (i + 1) * m = (f x).length + i * m by rw [hf, Nat.add_mul]; omega, ← List.drop_drop, List.drop_left]
    exact chunk_at hf l i (by simpa using hi)
/-- Where the i-th struct lies. -/
def idm (m : Nat) (v : AV) (i : Nat) : AV := match v with | .sl a _ _ => .ptr { a with off := a.off + i * m } | _ => .undef
theorem at_aggs {α : Type} {f : α → List AV} {m : Nat} {l : List α} {k : Nat} {kk : IntKind} (hf : ∀ x, (f x).length = m) (h : RH H v m (l.flatMap f) l.length) (h0 : v.off0 = true) (hi : ti P t1 = some i) (hd : i.desc = .slice e) (hj : ti P e = some j) (hs : j.size = m) (hm : 0 < m) (ha : j.isAgg = true) (hk : k < l.length) :
    indexAddrA P t1 v (.int kk k) ⟨H, S⟩ = some (idm m v k) ∧ loadA P e (idm m v k) ⟨H, S⟩ = some (.agg (f l[k])) := by
  rcases h with ⟨_, _, h⟩ | ⟨ix, off, c, r, rfl, h1, h2, h3, h4⟩
  · omega
  · have hoff : off = 0 := by simpa [AV.off0] using h0
    subst hoff
    have hr : ∀ o, getRow ⟨H, S⟩ ⟨0, ix, o⟩ = some r := fun o => heap_row h1
    constructor
    · unfold indexAddrA
      simp only [hi, hd, hj, hr]
      rw [if_pos ⟨by omega, by omega, by omega, by omega⟩, hs]
      rfl
    · unfold idm
      rw [load_agg hj ha (hr _) (by rw [h2, hs, Nat.zero_add, Nat.mul_mod_left]; omega)]
      congr 2
      have h5 : (r.cs.drop (0 + k * m)).take j.size = (((r.cs.drop 0).take (l.length * m)).drop (k * m)).take m := by
        rw [hs, Nat.zero_add, List.drop_zero, List.drop_take, List.take_take, Nat.min_eq_left]
        have : (k + 1) * m ≤ l.length * m := Nat.mul_le_mul_right m (by omega)
        rw [Nat.add_mul] at this; omega
      rw [h5, h3]
      exact chunk_at hf l k hk
end
end Go.Abs
