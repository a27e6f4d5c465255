/- Memory written out: heap, top frame, the frames below. -/
import Derived.Test.YtlpcbfndjffpfaaAbs25
set_option linter.unusedVariables false
set_option linter.unnecessarySimpa false
set_option linter.unusedSimpArgs false
namespace Go.Abs
open Go.RowKit (Below)

section
variable {H F : List Block} {S : List (List Block)} {b : Block} {ix : Nat}
@[go_sem] theorem mem_enter : (⟨H, S⟩ : Mem).enter = ⟨H, [] :: S⟩ := (rfl)
@[go_sem] theorem mem_leave : (⟨H, F :: S⟩ : Mem).leave = ⟨H, S⟩ := (rfl)
@[go_sem] theorem mem_pushH : (⟨H, S⟩ : Mem).pushH b = ⟨H ++ [b], S⟩ := (rfl)
@[go_sem] theorem mem_pushL : (⟨H, F :: S⟩ : Mem).pushL b = ⟨H, (F ++ [b]) :: S⟩ := (rfl)
@[go_sem] theorem mem_newL {M : Mem} : M.new false b = M.pushL b := (rfl)
@[go_sem] theorem mem_newH {M : Mem} : M.new true b = M.pushH b := (rfl)
@[go_sem] theorem mem_atL : (⟨H, F :: S⟩ : Mem).at_ false = ⟨S.length + 1, F.length, 0⟩ := (rfl)
@[go_sem] theorem mem_atH : (⟨H, S⟩ : Mem).at_ true = ⟨0, H.length, 0⟩ := (rfl)
@[go_sem] theorem mem_get0 : (⟨H, S⟩ : Mem).get 0 ix = H[ix]? := by simp [Mem.get]
@[go_sem] theorem mem_get_top : (⟨H, F :: S⟩ : Mem).get (S.length + 1) ix = F[ix]? := by simp [Mem.get]
@[go_sem] theorem mem_set0 : (⟨H, S⟩ : Mem).set 0 ix b = ⟨H.set ix b, S⟩ := by simp [Mem.set]
@[go_sem] theorem mem_set_top : (⟨H, F :: S⟩ : Mem).set (S.length + 1) ix b = ⟨H, F.set ix b :: S⟩ := by simp [Mem.set]
@[go_sem] theorem mem_depth : (⟨H, F :: S⟩ : Mem).depth = S.length + 1 := (rfl)
@[go_sem] theorem nilCheck_ptr {a : AA} : nilCheckA (.ptr a) = some (.ptr a) := (rfl)
@[go_sem] theorem extract_0 {x : AV} {xs : List AV} : extractA (.tup (x :: xs)) 0 = some x := (rfl)
@[go_sem] theorem extract_1 {x y : AV} {xs : List AV} : extractA (.tup (x :: y :: xs)) 1 = some y := (rfl)
@[go_sem] theorem extract_2 {x y z : AV} {xs : List AV} : extractA (.tup (x :: y :: z :: xs)) 2 = some z := (rfl)
@[go_sem] theorem beqT {b : Bool} : (b == true) = b := by cases b <;> rfl
@[go_sem] theorem beqF {b : Bool} : (b == false) = !b := by cases b <;> rfl
attribute [go_sem] List.length_nil List.length_cons Nat.zero_add decide_true decide_false Bool.not_true Bool.not_false Bool.false_eq_true if_true if_false Bool.true_and Bool.and_true Bool.and_false Bool.false_and
end

@[go_sem] theorem ev_nilptr {env : List AV} : ev env (.const (.pointer none)) = .nilptr := (rfl)
@[go_sem] theorem ev_nilmap {env : List AV} : ev env (.const (.map none)) = .nilmap := (rfl)
@[go_sem] theorem un_neg {k : IntKind} {n : Int} : unA .neg (.int k n) = some (.int k (k.wrap (0 - n))) := (rfl)
attribute [go_sem] eq_self
theorem top_row {H F : List Block} {S : List (List Block)} {ix off : Nat} {r : Row} (h : F[ix]? = some (.row r)) : getRow ⟨H, F :: S⟩ ⟨S.length + 1, ix, off⟩ = some r := by simp only [getRow, mem_get_top, h]
theorem heap_row {H : List Block} {S : List (List Block)} {ix off : Nat} {r : Row} (h : H[ix]? = some (.row r)) : getRow ⟨H, S⟩ ⟨0, ix, off⟩ = some r := by simp only [getRow, mem_get0, h]
section
variable {P : Program} {t ft : TypeId} {M : Mem} {i j : TI} {a : AA} {r : Row} {vs : List AV} {v : AV} {f off : Nat} {fs : List (Nat × TypeId × Bool)} {bl : Bool}
theorem field_addr (hi : ti P t = some i) (hd : i.desc = .struct fs) (hf : fs[f]? = some (off, ft, bl)) (hj : ti P ft = some j) (hr : getRow M a = some r) (h1 : 0 < j.size := by first | decide | simp) (h2 : a.off % r.es + off < r.es := by first | decide | simp) : fieldAddrA P t (.ptr a) f M = some (.ptr { a with off := a.off + off }) := by
  unfold fieldAddrA
  simp only [hi, hd, hr, hf, hj]
  rw [if_pos ⟨h1, h2⟩]
theorem load_one (hi : ti P t = some i) (ha : i.isAgg = false) (hr : getRow M a = some r) : loadA P t (.ptr a) M = r.cs[a.off]? := by
  unfold loadA
  simp only [hi, hr, ha]
  rfl
theorem load_all (hi : ti P t = some i) (ha : i.isAgg = true) (hr : getRow M a = some r) (h0 : a.off = 0) (hs : r.es = i.size) (hl : r.cs.length = i.size) : loadA P t (.ptr a) M = some (.agg r.cs) := by
  unfold loadA
  simp only [hi, hr, ha, if_true, h0, Nat.zero_mod, Nat.zero_add, List.drop_zero]
  rw [if_pos (by omega), List.take_of_length_le (by omega)]
theorem spl_all : ∀ (ys cs pre : List AV), cs.length = ys.length → spl (pre ++ cs) pre.length ys = pre ++ ys
  | [], cs, pre, h => by
    have : cs = [] := List.eq_nil_of_length_eq_zero (by simpa using h)
    subst this; rfl
  | y :: ys, [], pre, h => by simp at h
  | y :: ys, c :: cs, pre, h => by
    rw [spl]
    have e : (pre ++ c :: cs).set pre.length y = (pre ++ [y]) ++ cs := by simp
    rw [e]
    have := spl_all ys cs (pre ++ [y]) (by simpa using h)
    simpa using this
theorem store_all (hi : ti P t = some i) (hr : getRow M a = some r) (hro : r.ro = false) (hmv : r.mv = false) (h0 : a.off = 0) (hs : r.es = i.size) (hl : r.cs.length = i.size) (hv : vs.length = i.size) (hst : vs.all AV.st = true) : stores P t (.ptr a) (.agg vs) M = some (.undef, M.set a.lv a.ix (.row { r with cs := vs })) := by
  unfold stores storeA
  simp only [hi, hr]
  have e : (AV.agg vs).cells = vs := rfl
  rw [e, if_pos ⟨hro, hmv, hst, hv, by rw [h0]; simp; omega⟩, h0]
  have := spl_all vs r.cs [] (by omega)
  simp only [List.nil_append, List.length_nil] at this
  rw [this]; rfl
theorem store_cell (hi : ti P t = some i) (hr : getRow M a = some r) (hro : r.ro = false) (hmv : r.mv = false) (h1 : i.size = 1) (h2 : a.off % r.es + 1 ≤ r.es) (hst : v.st = true) (hc : v.cells = [v]) : stores P t (.ptr a) v M = some (.undef, M.set a.lv a.ix (.row { r with cs := r.cs.set a.off v })) := by
  unfold stores storeA
  simp only [hi, hr]
  rw [hc, if_pos ⟨hro, hmv, by simp [hst], by simp [h1], by rw [h1]; exact h2⟩]
  rfl
theorem alloc_agg {hp : Bool} {z : List AV} (hi : ti P t = some i) (hz : i.zero = .agg z) (hst : z.all AV.st = true) (hl : z.length = i.size) (hpos : 0 < i.size) : allocA P t hp M = some (.ptr (M.at_ hp), M.new hp (.row ⟨t, i.size, z, false, false⟩)) := by
  unfold allocA boxA
  simp only [hi, hz]
  have e : (AV.agg z).cells = z := rfl
  rw [e, if_pos ⟨hst, hl, hpos⟩]
theorem box_agg {hp : Bool} (hi : ti P t = some i) (hst : vs.all AV.st = true) (hl : vs.length = i.size) (hpos : 0 < i.size) : boxA P t hp (.agg vs) M = some (.ptr (M.at_ hp), M.new hp (.row ⟨t, i.size, vs, false, false⟩)) := by
  unfold boxA
  simp only [hi]
  have e : (AV.agg vs).cells = vs := rfl
  rw [e, if_pos ⟨hst, hl, hpos⟩]
theorem index_addr {n : Nat} {c : Option Nat} {k : IntKind} {x : Int} {e : TypeId} (hi : ti P t = some i) (hd : i.desc = .slice e) (hj : ti P e = some j) (hr : getRow M a = some r) (hs : j.size = 1) (he : r.es = 1) (h0 : 0 ≤ x) (h1 : x < n) :
    indexAddrA P t (.sl a n c) (.int k x) M = some (.ptr { a with off := a.off + x.toNat }) := by
  unfold indexAddrA
  simp only [hi, hd, hr, hj]
  rw [if_pos ⟨h0, h1, by omega, by rw [he, hs]⟩, hs, Nat.mul_one]
theorem eq_bool {p q cx cy : Bool} (hi : ti P t = some i) (hd : i.desc = .bool) : binG P .eql t cx cy (.bool p) (.bool q) = some (.bool (p == q)) := by simp [binG, notUndef, guardA, binA, eqA, hi, hd]
theorem ne_bool {p q cx cy : Bool} (hi : ti P t = some i) (hd : i.desc = .bool) : binG P .neq t cx cy (.bool p) (.bool q) = some (.bool (!(p == q))) := by simp [binG, notUndef, guardA, binA, eqA, hi, hd]
theorem eq_ptr {cx cy : Bool} {e : TypeId} (hi : ti P t = some i) (hd : i.desc = .pointer e) : binG P .eql t cx cy (.ptr a) .nilptr = some (.bool false) := by simp [binG, notUndef, guardA, binA, eqA, hi, hd]
theorem ne_ptr {cx cy : Bool} {e : TypeId} (hi : ti P t = some i) (hd : i.desc = .pointer e) : binG P .neq t cx cy (.ptr a) .nilptr = some (.bool true) := by simp [binG, notUndef, guardA, binA, eqA, hi, hd]
theorem eq_nilptr {cx cy : Bool} {e : TypeId} (hi : ti P t = some i) (hd : i.desc = .pointer e) : binG P .eql t cx cy .nilptr .nilptr = some (.bool true) := by simp [binG, notUndef, guardA, binA, eqA, hi, hd]
theorem ne_nilptr {cx cy : Bool} {e : TypeId} (hi : ti P t = some i) (hd : i.desc = .pointer e) : binG P .neq t cx cy .nilptr .nilptr = some (.bool false) := by simp [binG, notUndef, guardA, binA, eqA, hi, hd]
end

/-! ### maps with numbers as keys -/
abbrev KV := List (Int × AV)
def kv (k : IntKind) (es : KV) : List (AV × AV) := es.map fun e => (AV.int k e.1, e.2)
def pos (n : Int) : KV → Nat → Option (Nat × AV)
  | [], _ => none
  | e :: es, i => if n = e.1 then some (i, e.2) else pos n es (i + 1)
def getK (es : KV) (n : Int) : Option AV := (pos n es 0).map (·.2)
def putK (es : KV) (n : Int) (v : AV) : KV := match pos n es 0 with | some (j, _) => es.set j (n, v) | none => es ++ [(n, v)]
def delK (es : KV) (n : Int) : KV := match pos n es 0 with | some (j, _) => es.eraseIdx j | none => es
theorem map_erase {α β : Type} (f : α → β) : ∀ (l : List α) (i : Nat), (l.map f).eraseIdx i = (l.eraseIdx i).map f
  | [], i => by simp
  | a :: l, 0 => by simp
  | a :: l, i + 1 => by simp [map_erase f l i]
theorem findA_kv {k : IntKind} {n : Int} : ∀ (es : KV) (i : Nat), findA (.int k n) (kv k es) i = some (pos n es i)
  | [], i => rfl
  | e :: es, i => by
    simp only [kv, List.map_cons, findA, keyEq, if_true, pos]
    by_cases h : n = e.1
    · simp [h]
    · simp only [h, beq_eq_false_iff_ne, ne_eq, not_false_eq_true, if_false]
      have : (n == e.1) = false := by simpa using h
      rw [this]
      exact findA_kv es (i + 1)
section
variable {P : Program} {t kt et : TypeId} {M : Mem} {i ik ie : TI} {k : IntKind} {es : KV} {n : Int} {m : Nat} {v : AV}
theorem lookup_kv (hi : ti P t = some i) (hd : i.desc = .map kt et) (hk : ti P kt = some ik) (hkd : ik.desc = .int k) (he : ti P et = some ie) (hm : M.get 0 m = some (.map (kv k es))) :
    lookupA P t (.map m) (.int k n) true M = some (.tup [(getK es n).getD ie.zero, .bool (getK es n).isSome]) := by
  have hg : getMap M m = some (kv k es) := by simp [getMap, hm]
  unfold lookupA
  simp only [hi, hd, hk, he, hkd, TD.keyOf, if_true, hg, findA_kv, getK]
  cases pos n es 0 with
  | none => rfl
  | some p => rfl
theorem lookup1_kv (hi : ti P t = some i) (hd : i.desc = .map kt et) (hk : ti P kt = some ik) (hkd : ik.desc = .int k) (he : ti P et = some ie) (hm : M.get 0 m = some (.map (kv k es))) :
    lookupA P t (.map m) (.int k n) false M = some ((getK es n).getD ie.zero) := by
  have hg : getMap M m = some (kv k es) := by simp [getMap, hm]
  unfold lookupA
  simp only [hi, hd, hk, he, hkd, TD.keyOf, if_true, hg, findA_kv, getK]
  cases pos n es 0 with
  | none => rfl
  | some p => rfl
theorem len_kv (hi : ti P t = some i) (hd : i.desc = .map kt et) (hm : M.get 0 m = some (.map (kv k es))) : lenA P t (.map m) M = some (.int .i64 es.length) := by
  have hg : getMap M m = some (kv k es) := by simp [getMap, hm]
  unfold lenA
  simp only [hi, hd, hg, Option.map_some, kv, List.length_map]
theorem put_kv (hi : ti P t = some i) (hd : i.desc = .map kt et) (hk : ti P kt = some ik) (hkd : ik.desc = .int k) (hv : v.lev0 = true) (hm : M.get 0 m = some (.map (kv k es))) :
    updates P t (.map m) (.int k n) v M = some (.undef, M.set 0 m (.map (kv k (putK es n v)))) := by
  have hg : getMap M m = some (kv k es) := by simp [getMap, hm]
  unfold updates updateA
  simp only [hi, hd, hk, hg, hkd, TD.keyOf, findA_kv, putK]
  rw [if_pos ⟨trivial, by simp [AV.lev0], hv⟩]
  cases pos n es 0 with
  | none => simp [pureM, kv]
  | some p => simp [pureM, kv, List.map_set]
theorem del_kv (hi : ti P t = some i) (hd : i.desc = .map kt et) (hk : ti P kt = some ik) (hkd : ik.desc = .int k) (hm : M.get 0 m = some (.map (kv k es))) :
    deletes P t (.map m) (.int k n) M = some (.tup [], M.set 0 m (.map (kv k (delK es n)))) := by
  have hg : getMap M m = some (kv k es) := by simp [getMap, hm]
  unfold deletes deleteA
  simp only [hi, hd, hk, hg, hkd, TD.keyOf, findA_kv, delK, if_true]
  cases pos n es 0 with
  | none => simp [pureM]
  | some p => simp [pureM, kv, map_erase]
theorem clear_kv (hi : ti P t = some i) (hm : M.get 0 m = some (.map (kv k es))) : clears P t (.map m) M = some (.tup [], M.set 0 m (.map (kv k []))) := by
  have hg : getMap M m = some (kv k es) := by simp [getMap, hm]
  unfold clears clearA
  simp only [hi, hg]
  rfl
end
end Go.Abs
