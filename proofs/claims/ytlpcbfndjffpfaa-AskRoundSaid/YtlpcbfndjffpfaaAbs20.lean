/- Bytes. -/
import Derived.Test.YtlpcbfndjffpfaaAbs19
set_option linter.unusedVariables false
set_option linter.unnecessarySimpa false
set_option linter.unusedSimpArgs false
namespace Go.Abs
open Go.RowKit (Below)

/-- The slice type t has elements of type e, which are bytes. -/
def ByteTy (P : Program) (t e : TypeId) : Prop := ∃ i j, ti P t = some i ∧ i.desc = .slice e ∧ ti P e = some j ∧ j.desc = .int .u8 ∧ j.size = 1 ∧ j.bytes = 1 ∧ j.zero = .int .u8 0
def StrTy (P : Program) (t : TypeId) : Prop := ∃ i, ti P t = some i ∧ i.desc = .string
theorem ByteTy.of {P : Program} {t e : TypeId} {a b : TI} (h1 : ti P t = some a) (h2 : ti P e = some b) (h3 : a.desc = .slice e := by rfl) (h4 : b.desc = .int .u8 := by rfl) (h5 : b.size = 1 := by rfl) (h6 : b.bytes = 1 := by rfl) (h7 : b.zero = .int .u8 0 := by rfl) : ByteTy P t e := ⟨a, b, h1, h3, h2, h4, h5, h6, h7⟩
theorem StrTy.of {P : Program} {t : TypeId} {a : TI} (h1 : ti P t = some a) (h2 : a.desc = .string := by rfl) : StrTy P t := ⟨a, h1, h2⟩

def RB (M : Mem) (v : AV) (l : List UInt8) : Prop := Rd M v 1 (bytesA l) l.length
def OB (k : Nat) (M : Mem) (v : AV) (e : TypeId) (l : List UInt8) : Prop := Own k M v e 1 (bytesA l) l.length

section
variable {P : Program} {k k' : Nat} {M M' : Mem} {v x : AV} {l r : List UInt8} {t t2 e : TypeId}
theorem OB.rb (h : OB k M v e l) : RB M v l := Own.rd h
theorem RB.step (h : RB M v l) (s : Step k M M') : RB M' v l := Rd.step h s
theorem RB.enter (h : RB M v l) : RB M.enter v l := Rd.enter h
theorem RB.nil : RB M .nilsl [] := Rd.nil
theorem OB.nil : OB k M .nilsl e [] := Own.nil
theorem OB.step (h : OB k M v e l) (s : Step M.heap.length M M') : OB k M' v e l := Own.step h s
theorem OB.mono (h : OB k M v e l) (hk : k' ≤ k) : OB k' M v e l := Own.mono h hk
theorem OB.leave {d : Nat} (hd : M.depth = d + 1) (h : OB k M v e l) : OB k M.leave v e l := Own.leave hd h
theorem OB.lev0 (h : OB k M v e l) : v.lev0 = true := Own.lev0 h
theorem RB.len (h : RB M v l) (ht : ByteTy P t e) : lenA P t v M = some (.int .i64 l.length) := by
  obtain ⟨i, j, h1, h2, _⟩ := ht
  exact len_rd h h1 h2
theorem RB.slice (h : RB M v l) (ht : ByteTy P t e) {lo hi : Option AV} {a b : Nat} (hlo : onat 0 lo = some a) (hhi : onat l.length hi = some b) (hab : a ≤ b) (hb : b ≤ l.length) :
    ∃ v', slices P t v lo hi none M = some v' ∧ RB M v' ((l.take b).drop a) := by
  obtain ⟨i, j, h1, h2, h3, h4, h5, _⟩ := ht
  obtain ⟨v', h6, h7⟩ := slice_rd h h1 h2 h3 h5 hlo hhi hab hb
  refine ⟨v', h6, ?_⟩
  unfold RB
  have e1 : ((bytesA l).take (b * 1)).drop (a * 1) = bytesA ((l.take b).drop a) := by simp [bytesA, List.map_take, List.map_drop]
  have e2 : ((l.take b).drop a).length = b - a := by simp; omega
  rw [e2, ← e1]; exact h7
theorem RB.text (h : RB M v l) (ht : ByteTy P t e) (hs : StrTy P t2) {hp : Bool} : convA P t t2 hp v M = some (.str l, M) := by
  obtain ⟨i, j, h1, h2, h3, h4, _⟩ := ht
  obtain ⟨i2, h6, h7⟩ := hs
  exact conv_text h h1 h2 h3 h4 h6 h7
theorem conv_data (h0 : 0 < M.depth) (hs : StrTy P t2) (ht : ByteTy P t e) : ∃ v' M', convA P t2 t true (.str l) M = some (v', M') ∧ OB M.heap.length M' v' e l ∧ Step M.heap.length M M' := by
  obtain ⟨i, j, h1, h2, h3, h4, _⟩ := ht
  obtain ⟨i2, h6, h7⟩ := hs
  refine ⟨_, _, conv_bytes h6 h7 h1 h2 h3 h4, .inr ⟨M.heap.length, none, false, rfl, Nat.le_refl _, .inl rfl, Mem.new_get (hp := true) h0, by simp [bytesA]⟩, Step.new _ h0 _ _⟩
theorem strLen (hs : StrTy P t) : lenA P t (.str l) M = some (.int .i64 l.length) := by
  obtain ⟨i, h1, h2⟩ := hs
  exact len_str h1 h2
theorem bytesA_append : bytesA l ++ bytesA r = bytesA (l ++ r) := by simp [bytesA]
/-- append of bytes to bytes of one's own. -/
theorem OB.append (h0 : 0 < M.depth) (hk : k ≤ M.heap.length) (ht : ByteTy P t e) (ht2 : ByteTy P t2 e) (h : OB k M v e l) (hx : RB M x r) (hb : l.length + r.length ≤ 140737488355328) :
    ∃ v' M', appendA P t t2 true v x M = some (v', M') ∧ OB k M' v' e (l ++ r) ∧ Step k M M' := by
  obtain ⟨i, j, h1, h2, h3, h4, h5, h6, h7⟩ := ht
  obtain ⟨i2, j2, g1, g2, _⟩ := ht2
  obtain ⟨v', M', q1, q2, q3⟩ := append_own (k := k) (M := M) (s := v) (x := x) (m := r.length) (ys := bytesA r) h0 hk h1 h2 h3 g1 (by rw [g2]; rfl) h5 ⟨by omega, by omega, by rw [h7, h5]; rfl, by rw [h7]; rfl⟩ h hx.content hx.rowSize (by simp [bytesA]) (bytesA_st r) (by rw [h6]; omega)
  refine ⟨v', M', q1, ?_, q3⟩
  unfold OB
  rw [← bytesA_append, List.length_append]; exact q2
/-- append of a text to bytes of one's own. -/
theorem OB.appendText (h0 : 0 < M.depth) (hk : k ≤ M.heap.length) (ht : ByteTy P t e) (ht2 : StrTy P t2) (h : OB k M v e l) (hb : l.length + r.length ≤ 140737488355328) :
    ∃ v' M', appendA P t t2 true v (.str r) M = some (v', M') ∧ OB k M' v' e (l ++ r) ∧ Step k M M' := by
  obtain ⟨i, j, h1, h2, h3, h4, h5, h6, h7⟩ := ht
  obtain ⟨i2, g1, g2⟩ := ht2
  obtain ⟨v', M', q1, q2, q3⟩ := append_own (k := k) (M := M) (s := v) (x := .str r) (m := r.length) (ys := bytesA r) h0 hk h1 h2 h3 g1 (by rw [g2]; rfl) h5 ⟨by omega, by omega, by rw [h7, h5]; rfl, by rw [h7]; rfl⟩ h rfl rfl (by simp [bytesA]) (bytesA_st r) (by rw [h6]; omega)
  refine ⟨v', M', q1, ?_, q3⟩
  unfold OB
  rw [← bytesA_append, List.length_append]; exact q2
/-- A slice of one byte. -/
theorem one_byte {n : Nat} (h0 : 0 < M.depth) (ht : ByteTy P t e) (hn2 : n < 256) : ∃ v' M', buildSliceA P t true 1 [(0, .int .u8 n)] M = some (v', M') ∧ OB M.heap.length M' v' e [UInt8.ofNat n] ∧ Step M.heap.length M M' := by
  obtain ⟨i, j, h1, h2, h3, h4, h5, h6, h7⟩ := ht
  unfold buildSliceA
  rw [h1]; simp only [h2, h3, h5, h7]
  have e1 : fillA (fun i => some (i * 1, 1)) (zeros (AV.int .u8 0).cells 1) [(0, .int .u8 n)] = some [.int .u8 n] := rfl
  rw [if_pos (by refine ⟨by decide, rfl, rfl⟩), e1]
  simp only
  rw [if_pos (by refine ⟨by simp, by simp, rfl⟩)]
  have e2 : bytesA [UInt8.ofNat n] = [AV.int .u8 n] := by
    simp only [bytesA, List.map_cons, List.map_nil, List.cons.injEq, AV.int.injEq, true_and, and_true]
    have : (UInt8.ofNat n).toNat = n := by
      rw [UInt8.toNat_ofNat']; omega
    rw [this]
  exact ⟨_, _, rfl, .inr ⟨M.heap.length, some 1, false, rfl, Nat.le_refl _, .inr rfl, by rw [e2]; exact Mem.new_get (hp := true) h0, by rw [e2]; rfl⟩, Step.new _ h0 _ _⟩
end
def isNil : AV → Bool | .nilsl => true | _ => false
theorem nil_eql {P : Program} {M : Mem} {v : AV} {es n : Nat} {cs : List AV} {t e : TypeId} {i : TI} {cx cy : Bool} (h : Rd M v es cs n) (hi : ti P t = some i) (hd : i.desc = .slice e) : binG P .eql t cx cy v .nilsl = some (.bool (isNil v)) := by
  rcases h with ⟨rfl, _⟩ | ⟨a, c, r, rfl, _⟩ <;> simp [binG, notUndef, guardA, binA, eqA, hi, hd, isNil]
theorem nil_neq {P : Program} {M : Mem} {v : AV} {es n : Nat} {cs : List AV} {t e : TypeId} {i : TI} {cx cy : Bool} (h : Rd M v es cs n) (hi : ti P t = some i) (hd : i.desc = .slice e) : binG P .neq t cx cy v .nilsl = some (.bool (!isNil v)) := by
  rcases h with ⟨rfl, _⟩ | ⟨a, c, r, rfl, _⟩ <;> simp [binG, notUndef, guardA, binA, eqA, hi, hd, isNil]
theorem Rd.of_isNil {M : Mem} {v : AV} {es n : Nat} {cs : List AV} (h : Rd M v es cs n) (hn : isNil v = true) : v = .nilsl ∧ cs = [] ∧ n = 0 := by
  rcases h with h | ⟨a, c, r, rfl, _⟩
  · exact h
  · cases hn
/-- A slice of no elements, not nil. -/
theorem empty_slice {P : Program} {M : Mem} {t e : TypeId} (h0 : 0 < M.depth) (ht : ByteTy P t e) : ∃ v' M', buildSliceA P t true 0 [] M = some (v', M') ∧ OB M.heap.length M' v' e [] ∧ Step M.heap.length M M' := by
  obtain ⟨i, j, h1, h2, h3, h4, h5, h6, h7⟩ := ht
  unfold buildSliceA
  rw [h1]; simp only [h2, h3, h5, h7]
  have e1 : fillA (fun i => some (i * 1, 1)) (zeros (AV.int .u8 0).cells 0) [] = some [] := rfl
  rw [if_pos (by refine ⟨by decide, rfl, rfl⟩), e1]
  exact ⟨_, _, rfl, .inr ⟨M.heap.length, some 0, false, rfl, Nat.le_refl _, .inr rfl, Mem.new_get (hp := true) h0, rfl⟩, Step.new _ h0 _ _⟩
/-- A fresh slice, of a function that changes nothing. -/
def Gives (M : Mem) (e : TypeId) (l : List UInt8) (v : AV) (M' : Mem) : Prop := Step M.heap.length M M' ∧ OB M.heap.length M' v e l
theorem Step.len {k : Nat} {M M' : Mem} (h : Step k M M') : M.heap.length ≤ M'.heap.length := h.h
theorem depth_pos {M M' : Mem} {k d : Nat} (h : Step k M M') (hd : M.depth = d + 1) : 0 < M'.depth := by rw [h.d, hd]; omega
end Go.Abs
