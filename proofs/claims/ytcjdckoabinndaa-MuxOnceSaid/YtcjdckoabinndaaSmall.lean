/- The walk of FidsNews and FidsFull. -/
import Derived.Test.YtcjdckoabinndaaFids
import Derived.Test.YtcjdckoabinndaaAbs26
set_option maxRecDepth 100000
set_option maxHeartbeats 4000000
set_option linter.unusedSimpArgs false
set_option linter.unusedVariables false
namespace Go.Proofs.Ytcjdckoabinndaa
open Go.Abs
theorem eqp {a : AA} {cx cy : Bool} : binG Try.prog .eql 24 cx cy (.ptr a) .nilptr = some (.bool false) := eq_ptr ti24 rfl
theorem nep {a : AA} {cx cy : Bool} : binG Try.prog .neq 24 cx cy (.ptr a) .nilptr = some (.bool true) := ne_ptr ti24 rfl
theorem eqn {cx cy : Bool} : binG Try.prog .eql 24 cx cy .nilptr .nilptr = some (.bool true) := eq_nilptr ti24 rfl
theorem nen {cx cy : Bool} : binG Try.prog .neq 24 cx cy .nilptr .nilptr = some (.bool false) := ne_nilptr ti24 rfl
theorem neb {p q cx cy : Bool} : binG Try.prog .neq 4 cx cy (.bool p) (.bool q) = some (.bool (!(p == q))) := ne_bool ti4 rfl
def around (n k : Int) : Int := Int.tmod (if n < 0 then -(n + 1) else n) k
theorem around_range {n k : Int} (hk : 0 < k) : 0 ≤ around n k ∧ around n k < k := by
  unfold around
  have h0 : 0 ≤ (if n < 0 then -(n + 1) else n) := by split <;> omega
  exact ⟨Int.tmod_nonneg _ h0, Int.tmod_lt_of_pos _ hk⟩
section
variable {H : List Block} {S : List (List Block)}
theorem newFids {k : Nat} : Fids ⟨H ++ [.map (kv .i64 []), .row ⟨101, 2, [.int .i64 k, .map H.length], false, false⟩], S⟩ (H.length + 1) H.length k [] := by
  refine ⟨?_, ?_, fun e he => by cases he⟩
  · simp only [mem_get0]; rw [List.getElem?_append_right (by omega)]; simp
  · simp only [mem_get0]; rw [List.getElem?_append_right (by omega)]; simp
theorem aroundF {n k : Int} (h0 : -9223372036854775808 ≤ n) (h1 : n < 9223372036854775808) (hk : 0 < k) : AC Try.prog 14 [.int .i64 n, .int .i64 k] ⟨H, S⟩ (fun v M' => v = .int .i64 (around n k) ∧ M' = ⟨H, S⟩) := by
  refine AC_of_WE Try.func14 rfl ?_
  simp only [Try.ntmps14, List.length_cons, List.length_nil, List.replicate, List.cons_append, List.nil_append, mem_enter]
  have hk0 : k ≠ 0 := by omega
  (repeat refine W_seq ?_); refine W_regionT [] ?_
  simp only [go_sem]
  by_cases hn : n < 0
  · (repeat refine W_seq ?_); refine W_regionT [] ?_
    simp only [go_sem, hn, decide_true]
    (repeat refine W_seq ?_)
    refine W_cond (b := true) rfl ?_
    simp only [if_true]
    (repeat refine W_seq ?_); refine W_regionT [] ?_
    simp only [go_sem, wrap_i64 (n := n + 1) (by omega) (by omega), wrap_i64 (n := 0 - (n + 1)) (by omega) (by omega)]
    (repeat refine W_seq ?_); refine W_regionT [] ?_
    simp only [go_sem, bin_rem hk0]
    refine W_ret ⟨.inr rfl, _, rfl, rfl, ?_, rfl⟩
    unfold around
    rw [if_pos hn, show -(n + 1) = 0 - (n + 1) by omega]; rfl
  · (repeat refine W_seq ?_); refine W_regionT [] ?_
    simp only [go_sem, hn, decide_false]
    (repeat refine W_seq ?_)
    refine W_cond (b := false) rfl ?_
    simp only [Bool.false_eq_true, if_false]
    refine W_skip ?_
    simp only [go_sem]
    (repeat refine W_seq ?_); refine W_regionT [] ?_
    simp only [go_sem, bin_rem hk0]
    refine W_ret ⟨.inr rfl, _, rfl, rfl, ?_, rfl⟩
    unfold around
    rw [if_neg hn]; rfl
theorem build0 : buildA Try.prog 32 [] = some fid0 := by
  unfold buildA; simp only [ti32]; rfl
theorem build6 {n : Int} : buildA Try.prog 32 [(6, .int .i64 n)] = some (.agg [(.int .i64 0), (.int .i64 0), (.int .i64 0), (.int .i64 0), (.str []), (.bool false), (.bool false), (.int .i64 0), (.int .i64 n), (.int .i64 0)]) := by
  unfold buildA; simp only [ti32]; rfl
theorem lives20  : AC Try.prog 17 [] ⟨H, S⟩ (fun v M' => v = .bool true ∧ ∃ H', M' = ⟨H', S⟩) := by
  refine AC_of_WE Try.func17 rfl ?_
  simp only [Try.ntmps17, List.length_cons, List.length_nil, List.replicate, List.cons_append, List.nil_append, mem_enter]
  (repeat refine W_seq ?_); refine W_regionT [] ?_
  simp only [go_sem]
  (repeat refine W_seq ?_); refine W_regionT [] ?_
  simp only [go_sem]
  refine AT_call rfl rfl newF fun v M1 hd1 h1 => ?_
  rcases h1 with ⟨_, rfl, rfl⟩ | ⟨hk, _⟩
  case inr => exact absurd (by decide) hk
  simp only [go_sem]
  (repeat refine W_seq ?_); refine W_regionT [] ?_
  simp only [go_sem, eqp]
  (repeat refine W_seq ?_)
  refine W_cond (b := false) rfl ?_
  simp only [Bool.false_eq_true, if_false]
  refine W_skip ?_
  simp only [go_sem]
  have e0 : Fids ⟨H ++ [.map (kv .i64 []), .row ⟨101, 2, [.int .i64 ((1 : Nat) : Int), .map H.length], false, false⟩], [] :: S⟩ (H.length + 1) H.length 1 [] := newFids
  have ek : ((1 : Int).toNat) = 1 := rfl
  rw [ek]
  generalize H ++ [.map (kv .i64 []), .row ⟨101, 2, [.int .i64 ((1 : Nat) : Int), .map H.length], false, false⟩] = G at e0
  (repeat refine W_seq ?_); refine W_regionT [] ?_
  simp only [go_sem, build0]
  refine AT_call rfl rfl (add e0 fidV0) fun v M1 hd1 ⟨hv, hM⟩ => ?_
  rw [show freeF 1 [] 7 = 0 from rfl] at hv hM
  subst hv
  subst hM
  simp only [go_sem, if_true]
  have e1 := e0.set (S' := [] :: S) (es' := putK [] 7 fid0) (putK_fid fidV0 (fun e he => by cases he))
  (repeat refine W_seq ?_); refine W_regionT [] ?_
  simp only [go_sem, build0]
  refine AT_call rfl rfl (add e1 fidV0) fun v M1 hd1 ⟨hv, hM⟩ => ?_
  rw [show freeF 1 (putK [] 7 fid0) 8 = 5 from rfl] at hv hM
  subst hv
  subst hM
  simp only [go_sem, show ¬ ((5 : Int) = 0) by decide, if_false]
  (repeat refine W_seq ?_); refine W_regionT [] ?_
  simp only [go_sem, build0]
  refine AT_call rfl rfl (add e1 fidV0) fun v M1 hd1 ⟨hv, hM⟩ => ?_
  rw [show freeF 1 (putK [] 7 fid0) 7 = 18 from rfl] at hv hM
  subst hv
  subst hM
  simp only [go_sem, show ¬ ((18 : Int) = 0) by decide, if_false]
  (repeat refine W_seq ?_); refine W_regionT [] ?_
  simp only [go_sem]
  refine W_ret ⟨.inr rfl, _, rfl, rfl, rfl, _, rfl⟩
theorem mk2 {a b : Int} : buildSliceA Try.prog 23 false 2 [(0, .int .i64 a), (1, .int .i64 b)] ⟨H, [] :: S⟩ = some (.sl ⟨S.length + 1, 0, 0⟩ 2 (some 2), ⟨H, [.row ⟨3, 1, [.int .i64 a, .int .i64 b], false, false⟩] :: S⟩) := by
  unfold buildSliceA
  simp only [ti23, ti3]
  have e1 : fillA (fun i => some (i * 1, 1)) (zeros (AV.int .i64 0).cells 2) [(0, .int .i64 a), (1, .int .i64 b)] = some [.int .i64 a, .int .i64 b] := rfl
  rw [if_pos (by refine ⟨by decide, rfl, rfl⟩), e1]
  simp only
  rw [if_pos (by refine ⟨by simp, by simp, rfl⟩)]
  simp only [go_sem]
theorem at2 {a b : Int} {i : Nat} (hi : i < 2) : indexAddrA Try.prog 23 (.sl ⟨S.length + 1, 0, 0⟩ 2 (some 2)) (.int .i64 i) ⟨H, [.row ⟨3, 1, [.int .i64 a, .int .i64 b], false, false⟩] :: S⟩ = some (.ptr ⟨S.length + 1, 0, i⟩) := by
  rw [index_addr ti23 rfl ti3 (top_row rfl) rfl rfl (by omega) (by omega)]
  simp
theorem ld2 {a b : Int} {i : Nat} (hi : i < 2) : loadA Try.prog 3 (.ptr ⟨S.length + 1, 0, i⟩) ⟨H, [.row ⟨3, 1, [.int .i64 a, .int .i64 b], false, false⟩] :: S⟩ = some (.int .i64 (if i = 0 then a else b)) := by
  rw [load_one ti3 rfl (top_row rfl)]
  match i, hi with
  | 0, _ => rfl
  | 1, _ => rfl
theorem getK_none {es : KV} {n : Int} (h : ∀ e ∈ es, e.1 < n) : getK es n = none := by
  have : ∀ (es : KV) (i : Nat), (∀ e ∈ es, e.1 < n) → pos n es i = none := by
    intro es
    induction es with
    | nil => intro i _; rfl
    | cons e es ih =>
      intro i h
      unfold pos
      rw [if_neg (by have := h e List.mem_cons_self; omega)]
      exact ih _ fun x hx => h x (List.mem_cons_of_mem _ hx)
  unfold getK
  rw [this es 0 h]; rfl
theorem putK_new {es : KV} {n : Int} {x : AV} (h : getK es n = none) : putK es n x = es ++ [(n, x)] := by
  unfold getK at h
  unfold putK
  cases hp : pos n es 0 with
  | none => rfl
  | some p => rw [hp] at h; cases h
end
end Go.Proofs.Ytcjdckoabinndaa
