/- Frames, and numbers. -/
import Derived.Test.YtlpcbfndjffpfaaAbs17
set_option linter.unusedVariables false
set_option linter.unnecessarySimpa false
set_option linter.unusedSimpArgs false
namespace Go.Abs
open Go.RowKit (Below)

theorem get_some_lv {M : Mem} {lv ix : Nat} {b : Block} (h : M.get lv ix = some b) : lv ≤ M.depth := by
  unfold Mem.get at h
  unfold Mem.depth
  split at h
  · omega
  · split at h
    · assumption
    · cases h
theorem get_enter {M : Mem} {lv ix : Nat} {b : Block} (h : M.get lv ix = some b) : M.enter.get lv ix = some b := by
  have hl := get_some_lv h
  unfold Mem.get at *
  unfold Mem.enter Mem.depth at *
  split
  · rename_i h0; rw [if_pos h0] at h; exact h
  · rename_i h0
    rw [if_neg h0, if_pos hl] at h
    rw [if_pos (by simp; omega)]
    simp only [List.length_cons]
    rw [show M.stk.length + 1 - lv = (M.stk.length - lv) + 1 by omega]
    exact h
theorem get_leave {M : Mem} {lv ix : Nat} {b : Block} {d : Nat} (hd : M.depth = d + 1) (hl : lv ≤ d) (h : M.get lv ix = some b) : M.leave.get lv ix = some b := by
  unfold Mem.get at *
  unfold Mem.leave Mem.depth at *
  split
  · rename_i h0; rw [if_pos h0] at h; exact h
  · rename_i h0
    rw [if_neg h0, if_pos (by omega)] at h
    rw [if_pos (by simp; omega)]
    simp only [List.length_tail]
    obtain ⟨heap, stk⟩ := M
    cases stk with
    | nil => simp at hd
    | cons f stk =>
      simp only [List.length_cons, Nat.add_right_cancel_iff] at hd
      simp only [List.tail_cons, List.length_cons] at *
      rw [show stk.length + 1 - lv = (stk.length + 1 - 1 - lv) + 1 by omega] at h
      exact h
theorem Rd.enter {M : Mem} {v : AV} {es n : Nat} {cs : List AV} (h : Rd M v es cs n) : Rd M.enter v es cs n :=
  h.imp id fun ⟨a, c, r, h1, hr, h2⟩ => ⟨a, c, r, h1, by simp only [getRow, get_enter (getRow_get hr)], h2⟩
theorem Own.leave {k : Nat} {M : Mem} {v : AV} {e es n : Nat} {cs : List AV} {d : Nat} (hd : M.depth = d + 1) (h : Own k M v e es cs n) : Own k M.leave v e es cs n :=
  h.imp id fun ⟨ix, c, mv, h1, h2, h3, h4, h5⟩ => ⟨ix, c, mv, h1, h2, h3, get_leave hd (Nat.zero_le _) h4, h5⟩
theorem Step.leave {k : Nat} {M M' : Mem} (h : Step k M.enter M') : Step k M M'.leave := by
  have hd : M'.depth = M.depth + 1 := by rw [h.d]; exact Mem.depth_enter
  refine ⟨by rw [Mem.depth_leave, hd]; rfl, h.h, fun lv ix b hb => ?_⟩
  have hl := get_some_lv hb
  rcases h.g lv ix b (get_enter hb) with h1 | ⟨h1, h2, r, ys, h3, h4⟩
  · exact .inl (get_leave hd hl h1)
  · exact .inr ⟨h1, h2, r, ys, h3, get_leave hd hl h4⟩
theorem enter_depth {M : Mem} : M.enter.depth = M.depth + 1 := Mem.depth_enter
theorem enter_heap {M : Mem} : M.enter.heap = M.heap := rfl
theorem Own.lev0 {k : Nat} {M : Mem} {v : AV} {e es n : Nat} {cs : List AV} (h : Own k M v e es cs n) : v.lev0 = true := by
  rcases h with ⟨rfl, _⟩ | ⟨ix, c, mv, rfl, _⟩ <;> simp [AV.lev0]

/-! ### numbers -/
section
variable {P : Program} {t : TypeId} {cx cy : Bool} {k k' : IntKind} {a b : Int} {s r : List UInt8} {p q : Bool}
@[go_sem] theorem bin_add : binG P .add t cx cy (.int k a) (.int k b) = some (.int k (k.wrap (a + b))) := by simp [binG, notUndef, guardA, binA, intA]
@[go_sem] theorem bin_sub : binG P .sub t cx cy (.int k a) (.int k b) = some (.int k (k.wrap (a - b))) := by simp [binG, notUndef, guardA, binA, intA]
@[go_sem] theorem bin_mul : binG P .mul t cx cy (.int k a) (.int k b) = some (.int k (k.wrap (a * b))) := by simp [binG, notUndef, guardA, binA, intA]
theorem bin_quo (h : b ≠ 0) : binG P .quo t cx cy (.int k a) (.int k b) = some (.int k (k.wrap (a.tdiv b))) := by simp [binG, notUndef, guardA, binA, intA, h]
theorem bin_rem (h : b ≠ 0) : binG P .rem t cx cy (.int k a) (.int k b) = some (.int k (a.tmod b)) := by simp [binG, notUndef, guardA, binA, intA, h]
theorem bin_shl (h : 0 ≤ b) : binG P .shl t cx cy (.int k a) (.int k' b) = some (.int k (k.wrap (a * 2 ^ (min b.toNat k.bits)))) := by simp [binG, notUndef, guardA, binA, intA, Int.not_lt.2 h]
theorem bin_shr (h : 0 ≤ b) : binG P .shr t cx cy (.int k a) (.int k' b) = some (.int k (a.fdiv (2 ^ (min b.toNat k.bits)))) := by simp [binG, notUndef, guardA, binA, intA, Int.not_lt.2 h]
@[go_sem] theorem bin_eql : binG P .eql t cx cy (.int k a) (.int k b) = some (.bool (decide (a = b))) := by simp [binG, notUndef, guardA, binA, intA]; rfl
@[go_sem] theorem bin_neq : binG P .neq t cx cy (.int k a) (.int k b) = some (.bool (!decide (a = b))) := by simp [binG, notUndef, guardA, binA, intA]; rfl
@[go_sem] theorem bin_lss : binG P .lss t cx cy (.int k a) (.int k b) = some (.bool (decide (a < b))) := by simp [binG, notUndef, guardA, binA, intA]
@[go_sem] theorem bin_leq : binG P .leq t cx cy (.int k a) (.int k b) = some (.bool (decide (a ≤ b))) := by simp [binG, notUndef, guardA, binA, intA]
@[go_sem] theorem bin_gtr : binG P .gtr t cx cy (.int k a) (.int k b) = some (.bool (decide (b < a))) := by simp [binG, notUndef, guardA, binA, intA]
@[go_sem] theorem bin_geq : binG P .geq t cx cy (.int k a) (.int k b) = some (.bool (decide (b ≤ a))) := by simp [binG, notUndef, guardA, binA, intA]
theorem bin_cat (h : s.length + r.length < 9223372036854775808) : binG P .add t cx cy (.str s) (.str r) = some (.str (s ++ r)) := by simp [binG, notUndef, guardA, binA, strA, h]
@[go_sem] theorem bin_eqls : binG P .eql t cx cy (.str s) (.str r) = some (.bool (s == r)) := by simp [binG, notUndef, guardA, binA, strA]
@[go_sem] theorem bin_neqs : binG P .neq t cx cy (.str s) (.str r) = some (.bool (!(s == r))) := by simp [binG, notUndef, guardA, binA, strA]
@[go_sem] theorem pick_bool {c : Bool} {x y : AV} : pickA (.bool c) x y = some (if c = true then x else y) := (rfl)
@[go_sem] theorem un_not : unA .not (.bool p) = some (.bool !p) := (rfl)
end

theorem wrap_i64 {n : Int} (h : -9223372036854775808 ≤ n) (h2 : n < 9223372036854775808) : IntKind.wrap .i64 n = n := by
  simp [IntKind.wrap, IntKind.bits, IntKind.signed]
  split <;> omega
theorem wrap_u8 {n : Int} : IntKind.wrap .u8 n = n % 256 := by simp [IntKind.wrap, IntKind.bits, IntKind.signed]
theorem wrap_u16 {n : Int} : IntKind.wrap .u16 n = n % 65536 := by simp [IntKind.wrap, IntKind.bits, IntKind.signed]
theorem wrap_u32 {n : Int} : IntKind.wrap .u32 n = n % 4294967296 := by simp [IntKind.wrap, IntKind.bits, IntKind.signed]
theorem wrap_u64 {n : Int} : IntKind.wrap .u64 n = n % 18446744073709551616 := by simp [IntKind.wrap, IntKind.bits, IntKind.signed]

/-- Of a number another kind of number. -/
def convI (i j : Option TI) (n : Int) (M : Mem) (hp : Bool) (k' : IntKind) (P : Program) (s t : TypeId) : Option (AV × Mem) :=
  match i, j with
  | some _, some j => match j.desc with | .int k => some (.int k (k.wrap n), M) | _ => convA P s t hp (.int k' n) M
  | _, _ => none
@[go_sem] theorem conv_int {P : Program} {s t : TypeId} {hp : Bool} {k : IntKind} {n : Int} {M : Mem} : convA P s t hp (.int k n) M = convI (ti P s) (ti P t) n M hp k P s t := by
  unfold convI
  cases hs : ti P s with
  | none => simp [convA, hs]
  | some i =>
    cases ht : ti P t with
    | none => simp [convA, hs, ht]
    | some j =>
      simp only
      split
      · rename_i hd; simp [convA, hs, ht, hd]
      · rfl
@[go_sem] theorem convI_int {P : Program} {s t : TypeId} {hp : Bool} {k k' : IntKind} {n : Int} {M : Mem} {i : TI} {sz b : Nat} {z : AV} {pl : Bool} : convI (some i) (some ⟨sz, b, .int k, z, pl⟩) n M hp k' P s t = some (.int k (k.wrap n), M) := (rfl)

/-- Bytes of one's own, or of others, as a text. -/
theorem conv_text {P : Program} {s t : TypeId} {hp : Bool} {x : AV} {M : Mem} {l : List UInt8} {n : Nat} {i j je : TI} {e : TypeId} (h : Rd M x 1 (bytesA l) n) (hi : ti P s = some i) (hd : i.desc = .slice e) (he : ti P e = some je) (hde : je.desc = .int .u8) (hj : ti P t = some j) (hdj : j.desc = .string) :
    convA P s t hp x M = some (.str l, M) := by
  have hc := h.cells
  have hl := h.len
  unfold convA
  rw [hi, hj]
  simp only [hd, hdj]
  rcases h with ⟨rfl, h2, h3⟩ | ⟨a, c, r, rfl, hr, he', hc', hl'⟩
  · simp only [he, hde, hc]
    rw [if_pos (by simpa using hl), textA_bytesA]; rfl
  · simp only [he, hde, hc]
    rw [if_pos (by simpa using hl), textA_bytesA]; rfl
theorem conv_bytes {P : Program} {s t : TypeId} {hp : Bool} {M : Mem} {l : List UInt8} {i j je : TI} {e : TypeId} (hi : ti P s = some i) (hd : i.desc = .string) (hj : ti P t = some j) (hdj : j.desc = .slice e) (he : ti P e = some je) (hde : je.desc = .int .u8) :
    convA P s t hp (.str l) M = some (.sl (M.at_ hp) l.length none, M.new hp (.row ⟨e, 1, bytesA l, false, false⟩)) := by
  unfold convA
  rw [hi, hj]
  simp only [hd, hdj, he, hde]
theorem len_str {P : Program} {t : TypeId} {l : List UInt8} {M : Mem} {i : TI} (hi : ti P t = some i) (hd : i.desc = .string) : lenA P t (.str l) M = some (.int .i64 l.length) := by
  unfold lenA; rw [hi]; simp only [hd]
end Go.Abs
