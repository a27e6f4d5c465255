/- The walk of FidsNews and FidsFull. -/
import Derived.Test.YtcjdckoabinndaaFids
import Derived.Test.YtcjdckoabinndaaAbs26
set_option maxRecDepth 100000
set_option maxHeartbeats 4000000
set_option linter.unusedSimpArgs false
set_option linter.unusedVariables false
namespace Go.Proofs.Ytcjdckoabinndaa
open Go.Abs
theorem eqp {a : AA} {cx cy : Bool} : binG Try.prog .eql 24 cx cy (.ptr a) .nilptr = some (.bool false) := eq_ptr ti24 rfl
theorem nep {a : AA} {cx cy : Bool} : binG Try.prog .neq 24 cx cy (.ptr a) .nilptr = some (.bool true) := ne_ptr ti24 rfl
theorem eqn {cx cy : Bool} : binG Try.prog .eql 24 cx cy .nilptr .nilptr = some (.bool true) := eq_nilptr ti24 rfl
theorem nen {cx cy : Bool} : binG Try.prog .neq 24 cx cy .nilptr .nilptr = some (.bool false) := ne_nilptr ti24 rfl
theorem neb {p q cx cy : Bool} : binG Try.prog .neq 4 cx cy (.bool p) (.bool q) = some (.bool (!(p == q))) := ne_bool ti4 rfl
def around (n k : Int) : Int := Int.tmod (if n < 0 then -(n + 1) else n) k
theorem around_range {n k : Int} (hk : 0 < k) : 0 ≤ around n k ∧ around n k < k := by
  unfold around
  have h0 : 0 ≤ (if n < 0 then -(n + 1) else n) := by split <;> omega
  exact ⟨Int.tmod_nonneg _ h0, Int.tmod_lt_of_pos _ hk⟩
section
variable {H : List Block} {S : List (List Block)}
theorem newFids {k : Nat} : Fids ⟨H ++ [.map (kv .i64 []), .row ⟨101, 2, [.int .i64 k, .map H.length], false, false⟩], S⟩ (H.length + 1) H.length k [] := by
  refine ⟨?_, ?_, fun e he => by cases he⟩
  · simp only [mem_get0]; rw [List.getElem?_append_right (by omega)]; simp
  · simp only [mem_get0]; rw [List.getElem?_append_right (by omega)]; simp
theorem aroundF {n k : Int} (h0 : -9223372036854775808 ≤ n) (h1 : n < 9223372036854775808) (hk : 0 < k) : AC Try.prog 14 [.int .i64 n, .int .i64 k] ⟨H, S⟩ (fun v M' => v = .int .i64 (around n k) ∧ M' = ⟨H, S⟩) := by
  refine AC_of_WE Try.func14 rfl ?_
  simp only [Try.ntmps14, List.length_cons, List.length_nil, List.replicate, List.cons_append, List.nil_append, mem_enter]
  have hk0 : k ≠ 0 := by omega
  (repeat refine W_seq ?_); refine W_regionT [] ?_
  simp only [go_sem]
  by_cases hn : n < 0
  · (repeat refine W_seq ?_); refine W_regionT [] ?_
    simp only [go_sem, hn, decide_true]
    (repeat refine W_seq ?_)
    refine W_cond (b := true) rfl ?_
    simp only [if_true]
    (repeat refine W_seq ?_); refine W_regionT [] ?_
    simp only [go_sem, wrap_i64 (n := n + 1) (by omega) (by omega), wrap_i64 (n := 0 - (n + 1)) (by omega) (by omega)]
    (repeat refine W_seq ?_); refine W_regionT [] ?_
    simp only [go_sem, bin_rem hk0]
    refine W_ret ⟨.inr rfl, _, rfl, rfl, ?_, rfl⟩
    unfold around
    rw [if_pos hn, show -(n + 1) = 0 - (n + 1) by omega]; rfl
  · (repeat refine W_seq ?_); refine W_regionT [] ?_
    simp only [go_sem, hn, decide_false]
    (repeat refine W_seq ?_)
    refine W_cond (b := false) rfl ?_
    simp only [Bool.false_eq_true, if_false]
    refine W_skip ?_
    simp only [go_sem]
    (repeat refine W_seq ?_); refine W_regionT [] ?_
    simp only [go_sem, bin_rem hk0]
    refine W_ret ⟨.inr rfl, _, rfl, rfl, ?_, rfl⟩
    unfold around
    rw [if_neg hn]; rfl
theorem build0 : buildA Try.prog 32 [] = some fid0 := by
  unfold buildA; simp only [ti32]; rfl
theorem build6 {n : Int} : buildA Try.prog 32 [(6, .int .i64 n)] = some (.agg [(.int .i64 0), (.int .i64 0), (.int .i64 0), (.int .i64 0), (.str []), (.bool false), (.bool false), (.int .i64 0), (.int .i64 n), (.int .i64 0)]) := by
  unfold buildA; simp only [ti32]; rfl
theorem lives20  : AC Try.prog 17 [] ⟨H, S⟩ (fun v M' => v = .bool true ∧ ∃ H', M' = ⟨H', S⟩) := by
  refine AC_of_WE Try.func17 rfl ?_
  simp only [Try.ntmps17, List.length_cons, List.length_nil, List.replicate, List.cons_append, List.nil_append, mem_enter]
  (repeat refine W_seq ?_); refine W_regionT [] ?_
  simp only [go_sem]
  (repeat refine W_seq ?_); refine W_regionT [] ?_
  simp only [go_sem]
  refine AT_call rfl rfl newF fun v M1 hd1 h1 => ?_
  rcases h1 with ⟨_, rfl, rfl⟩ | ⟨hk, _⟩
  case inr => exact absurd (by decide) hk
  simp only [go_sem]
  (repeat refine W_seq ?_); refine W_regionT [] ?_
  simp only [go_sem, eqp]
  (repeat refine W_seq ?_)
  refine W_cond (b := false) rfl ?_
  simp only [Bool.false_eq_true, if_false]
  refine W_skip ?_
  simp only [go_sem]
  have e0 : Fids ⟨H ++ [.map (kv .i64 []), .row ⟨101, 2, [.int .i64 ((1 : Nat) : Int), .map H.length], false, false⟩], [] :: S⟩ (H.length + 1) H.length 1 [] := newFids
  have ek : ((1 : Int).toNat) = 1 := rfl
  rw [ek]
  generalize H ++ [.map (kv .i64 []), .row ⟨101, 2, [.int .i64 ((1 : Nat) : Int), .map H.length], false, false⟩] = G at e0
  (repeat refine W_seq ?_); refine W_regionT [] ?_
  simp only [go_sem, build0]
  refine AT_call rfl rfl (add e0 fidV0) fun v M1 hd1 ⟨hv, hM⟩ => ?_
  rw [show freeF 1 [] 7 = 0 from rfl] at hv hM
  subst hv
  subst hM
  simp only [go_sem, if_true]
  have e1 := e0.set (S' := [] :: S) (es' := putK [] 7 fid0) (putK_fid fidV0 (fun e he => by cases he))
  (repeat refine W_seq ?_); refine W_regionT [] ?_
  simp only [go_sem, build0]
  refine AT_call rfl rfl (add e1 fidV0) fun v M1 hd1 ⟨hv, hM⟩ => ?_
  rw [show freeF 1 (putK [] 7 fid0) 8 = 5 from rfl] at hv hM
  subst hv
  subst hM
  simp only [go_sem, show ¬ ((5 : Int) = 0) by decide, if_false]
  (repeat refine W_seq ?_); refine W_regionT [] ?_
  simp only [go_sem, build0]
  refine AT_call rfl rfl (add e1 fidV0) fun v M1 hd1 ⟨hv, hM⟩ => ?_
  rw [show freeF 1 (putK [] 7 fid0) 7 = 18 from rfl] at hv hM
  subst hv
  subst hM
  simp only [go_sem, show ¬ ((18 : Int) = 0) by decide, if_false]
  (repeat refine W_seq ?_); refine W_regionT [] ?_
  simp only [go_sem]
  refine W_ret ⟨.inr rfl, _, rfl, rfl, rfl, _, rfl⟩
theorem pos_self {n : Int} {x : AV} {es : KV} {i : Nat} : pos n ((n, x) :: es) i = some (i, x) := by simp [pos]
theorem pos_ne {n m : Int} {x : AV} {es : KV} {i : Nat} (h : n ≠ m) : pos n ((m, x) :: es) i = pos n es (i + 1) := by simp [pos, h]
theorem pos_nil {n : Int} {i : Nat} : pos n [] i = none := rfl
theorem fidsFull {a b c : Int} : AC Try.prog 5 [.int .i64 a, .int .i64 b, .int .i64 c] ⟨H, S⟩ (fun v M' => v = .bool true) := by
  refine AC_of_WE Try.func5 rfl ?_
  simp only [Try.ntmps5, List.length_cons, List.length_nil, List.replicate, List.cons_append, List.nil_append, mem_enter]
  (repeat refine W_seq ?_); refine W_regionT [] ?_
  simp only [go_sem]
  (repeat refine W_seq ?_); refine W_regionT [] ?_
  simp only [go_sem]
  refine AT_call rfl rfl newF fun v M1 hd1 h1 => ?_
  rcases h1 with ⟨_, rfl, rfl⟩ | ⟨hk, _⟩
  case inr => exact absurd (by decide) hk
  simp only [go_sem]
  have e0 : Fids ⟨H ++ [.map (kv .i64 []), .row ⟨101, 2, [.int .i64 ((2 : Nat) : Int), .map H.length], false, false⟩], [] :: S⟩ (H.length + 1) H.length 2 [] := newFids
  have ek : ((2 : Int).toNat) = 2 := rfl
  rw [ek]
  generalize H ++ [.map (kv .i64 []), .row ⟨101, 2, [.int .i64 ((2 : Nat) : Int), .map H.length], false, false⟩] = G at e0
  by_cases hab : a = b
  · subst hab
    (repeat refine W_seq ?_); refine W_regionT [] ?_
    simp only [go_sem, eqp, decide_true]
    (repeat refine W_seq ?_)
    refine W_cond (b := true) rfl ?_
    simp only [if_true]
    (repeat refine W_seq ?_); refine W_regionT [] ?_
    simp only [go_sem, nep]
    refine AT_call rfl rfl lives20 fun v M1 hd1 ⟨hv, _, hM⟩ => ?_
    subst hv; subst hM
    simp only [go_sem]
    exact W_ret ⟨.inr rfl, _, rfl, rfl, rfl⟩
  by_cases hbc : b = c
  · subst hbc
    (repeat refine W_seq ?_); refine W_regionT [] ?_
    simp only [go_sem, eqp, hab, decide_true, decide_false]
    (repeat refine W_seq ?_)
    refine W_cond (b := true) rfl ?_
    simp only [if_true]
    (repeat refine W_seq ?_); refine W_regionT [] ?_
    simp only [go_sem, nep]
    refine AT_call rfl rfl lives20 fun v M1 hd1 ⟨hv, _, hM⟩ => ?_
    subst hv; subst hM
    simp only [go_sem]
    exact W_ret ⟨.inr rfl, _, rfl, rfl, rfl⟩
  by_cases hac : a = c
  · subst hac
    (repeat refine W_seq ?_); refine W_regionT [] ?_
    simp only [go_sem, eqp, hab, hbc, decide_true, decide_false]
    (repeat refine W_seq ?_)
    refine W_cond (b := true) rfl ?_
    simp only [if_true]
    (repeat refine W_seq ?_); refine W_regionT [] ?_
    simp only [go_sem, nep]
    refine AT_call rfl rfl lives20 fun v M1 hd1 ⟨hv, _, hM⟩ => ?_
    subst hv; subst hM
    simp only [go_sem]
    exact W_ret ⟨.inr rfl, _, rfl, rfl, rfl⟩
  (repeat refine W_seq ?_); refine W_regionT [] ?_
  simp only [go_sem, eqp, hab, hbc, hac, decide_false]
  (repeat refine W_seq ?_)
  refine W_cond (b := false) rfl ?_
  simp only [Bool.false_eq_true, if_false]
  refine W_skip ?_
  simp only [go_sem]
  have hba : b ≠ a := fun h => hab h.symm
  have hca : c ≠ a := fun h => hac h.symm
  have hcb : c ≠ b := fun h => hbc h.symm
  have p1 : putK [] a fid0 = [(a, fid0)] := rfl
  have p2 : putK [(a, fid0)] b fid0 = [(a, fid0), (b, fid0)] := by simp [putK, pos, hba]
  have p3 : delK [(a, fid0), (b, fid0)] b = [(a, fid0)] := by simp [delK, pos, hba]
  have q1 : freeF 2 [] a = 0 := rfl
  have q2 : freeF 2 [(a, fid0)] b = 0 := by simp [freeF, getK, pos, hba]
  have q3 : freeF 2 [(a, fid0), (b, fid0)] c = 5 := by simp [freeF, getK, pos, hca, hcb]
  have q4 : freeF 2 [(a, fid0), (b, fid0)] a = 18 := by simp [freeF, getK, pos]
  have q5 : (getK [(a, fid0), (b, fid0)] b).isSome = true := by simp [getK, pos, hba]
  have q6 : freeF 2 [(a, fid0)] c = 0 := by simp [freeF, getK, pos, hca]
  have vv : ∀ es : KV, (∀ e ∈ es, e.2 = fid0) → ∀ e ∈ es, FidV e.2 := fun es h e he => by rw [h e he]; exact fidV0
  generalize hw : (AV.agg [(.int .i64 0), (.int .i64 0), (.int .i64 0), (.int .i64 0), (.str []), (.bool false), (.bool false), (.int .i64 0), (.int .i64 1), (.int .i64 0)]) = w1
  have hwv : FidV w1 := ⟨_, hw.symm, rfl, rfl⟩
  have p4 : putK [(a, fid0)] c w1 = [(a, fid0), (c, w1)] := by simp [putK, pos, hca]
  have q7 : getK [(a, fid0), (c, w1)] c = some w1 := by simp [getK, pos, hca]
  (repeat refine W_seq ?_); refine W_regionT [] ?_
  simp only [go_sem, build0]
  refine AT_call rfl rfl (add (n := a) (x := fid0) e0 fidV0) fun v M1 hd1 ⟨hv, hM⟩ => ?_
  rw [q1] at hv hM
  rw [p1, if_pos rfl] at hM
  subst hv
  subst hM
  simp only [go_sem]
  have e1 := e0.set (S' := [] :: S) (es' := [(a, fid0)]) (vv _ (by simp))
  (repeat refine W_seq ?_); refine W_regionT [] ?_
  simp only [go_sem, build0]
  refine AT_call rfl rfl (add (n := b) (x := fid0) e1 fidV0) fun v M1 hd1 ⟨hv, hM⟩ => ?_
  rw [q2] at hv hM
  rw [p2, if_pos rfl] at hM
  subst hv
  subst hM
  simp only [go_sem]
  have e2 := e1.set (S' := [] :: S) (es' := [(a, fid0), (b, fid0)]) (vv _ (by simp))
  (repeat refine W_seq ?_); refine W_regionT [] ?_
  simp only [go_sem, build0]
  refine AT_call rfl rfl (add (n := c) (x := fid0) e2 fidV0) fun v M1 hd1 ⟨hv, hM⟩ => ?_
  rw [q3] at hv hM
  rw [if_neg (by decide)] at hM
  subst hv
  subst hM
  simp only [go_sem]
  (repeat refine W_seq ?_); refine W_regionT [] ?_
  simp only [go_sem, build0]
  refine AT_call rfl rfl (add (n := a) (x := fid0) e2 fidV0) fun v M1 hd1 ⟨hv, hM⟩ => ?_
  rw [q4] at hv hM
  rw [if_neg (by decide)] at hM
  subst hv
  subst hM
  simp only [go_sem]
  (repeat refine W_seq ?_); refine W_regionT [] ?_
  simp only [go_sem]
  refine AT_call rfl rfl (drop (n := b) e2) fun v M1 hd1 ⟨hv, hM⟩ => ?_
  rw [q5, if_pos rfl] at hv
  rw [p3] at hM
  subst hv
  subst hM
  simp only [go_sem]
  have e3 := e2.set (S' := [] :: S) (es' := [(a, fid0)]) (vv _ (by simp))
  have b6 := build6 (n := 1)
  rw [hw] at b6
  (repeat refine W_seq ?_); refine W_regionT [] ?_
  simp only [go_sem, b6]
  refine AT_call rfl rfl (add (n := c) (x := w1) e3 hwv) fun v M1 hd1 ⟨hv, hM⟩ => ?_
  rw [q6] at hv hM
  rw [p4, if_pos rfl] at hM
  subst hv
  subst hM
  simp only [go_sem]
  have e4 := e3.set (S' := [] :: S) (es' := [(a, fid0), (c, w1)]) (fun e he => by simp at he; rcases he with rfl | rfl; exact fidV0; exact hwv)
  (repeat refine W_seq ?_); refine W_regionT [] ?_
  simp only [go_sem]
  refine AT_call rfl rfl (get (n := c) e4) fun v M1 hd1 ⟨hv, hM⟩ => ?_
  rw [q7] at hv
  simp only [Option.getD_some, Option.isSome_some, if_true] at hv
  subst hv
  subst hM
  subst hw
  simp only [go_sem]
  rw [alloc_agg ti32 rfl rfl rfl (by decide)]
  simp only [go_sem]
  rw [store_all ti32 (top_row rfl) rfl rfl rfl rfl rfl rfl rfl]
  simp only [go_sem]
  (repeat refine W_seq ?_); refine W_regionT [] ?_
  simp only [go_sem]
  rw [field_addr (off := 8) ti32 rfl rfl ti3 (top_row rfl)]
  simp only [go_sem]
  rw [load_one ti3 rfl (top_row rfl)]
  simp only [go_sem]
  refine AT_call rfl rfl lives20 fun v M1 hd1 ⟨hv, _, hM⟩ => ?_
  subst hv; subst hM
  simp only [go_sem]
  exact W_ret ⟨.inr rfl, _, rfl, rfl, rfl⟩
theorem mk2 {a b : Int} : buildSliceA Try.prog 23 false 2 [(0, .int .i64 a), (1, .int .i64 b)] ⟨H, [] :: S⟩ = some (.sl ⟨S.length + 1, 0, 0⟩ 2 (some 2), ⟨H, [.row ⟨3, 1, [.int .i64 a, .int .i64 b], false, false⟩] :: S⟩) := by
  unfold buildSliceA
  simp only [ti23, ti3]
  have e1 : fillA (fun i => some (i * 1, 1)) (zeros (AV.int .i64 0).cells 2) [(0, .int .i64 a), (1, .int .i64 b)] = some [.int .i64 a, .int .i64 b] := rfl
  rw [if_pos (by refine ⟨by decide, rfl, rfl⟩), e1]
  simp only
  rw [if_pos (by refine ⟨by simp, by simp, rfl⟩)]
  simp only [go_sem]
theorem at2 {a b : Int} {i : Nat} (hi : i < 2) : indexAddrA Try.prog 23 (.sl ⟨S.length + 1, 0, 0⟩ 2 (some 2)) (.int .i64 i) ⟨H, [.row ⟨3, 1, [.int .i64 a, .int .i64 b], false, false⟩] :: S⟩ = some (.ptr ⟨S.length + 1, 0, i⟩) := by
  rw [index_addr ti23 rfl ti3 (top_row rfl) rfl rfl (by omega) (by omega)]
  simp
theorem ld2 {a b : Int} {i : Nat} (hi : i < 2) : loadA Try.prog 3 (.ptr ⟨S.length + 1, 0, i⟩) ⟨H, [.row ⟨3, 1, [.int .i64 a, .int .i64 b], false, false⟩] :: S⟩ = some (.int .i64 (if i = 0 then a else b)) := by
  rw [load_one ti3 rfl (top_row rfl)]
  match i, hi with
  | 0, _ => rfl
  | 1, _ => rfl
theorem getK_none {es : KV} {n : Int} (h : ∀ e ∈ es, e.1 < n) : getK es n = none := by
  have : ∀ (es : KV) (i : Nat), (∀ e ∈ es, e.1 < n) → pos n es i = none := by
    intro es
    induction es with
    | nil => intro i _; rfl
    | cons e es ih =>
      intro i h
      unfold pos
      rw [if_neg (by have := h e List.mem_cons_self; omega)]
      exact ih _ fun x hx => h x (List.mem_cons_of_mem _ hx)
  unfold getK
  rw [this es 0 h]; rfl
theorem putK_new {es : KV} {n : Int} {x : AV} (h : getK es n = none) : putK es n x = es ++ [(n, x)] := by
  unfold getK at h
  unfold putK
  cases hp : pos n es 0 with
  | none => rfl
  | some p => rw [hp] at h; cases h
theorem fidsNews {k : Int} (hk : -9223372036854775808 ≤ k) (hk2 : k < 9223372036854775808) : AC Try.prog 3 [.int .i64 k] ⟨H, S⟩ (fun v M' => v = .bool true) := by
  refine AC_of_WE Try.func3 rfl ?_
  simp only [Try.ntmps3, List.length_cons, List.length_nil, List.replicate, List.cons_append, List.nil_append, mem_enter]
  (repeat refine W_seq ?_); refine W_regionT [] ?_
  simp only [go_sem]
  (repeat refine W_seq ?_); refine W_regionT [] ?_
  simp only [go_sem]
  refine AT_call rfl rfl (aroundF hk hk2 (by decide)) fun v M1 hd1 ⟨hv, hM⟩ => ?_
  have hr := around_range (n := k) (k := 19) (by decide)
  generalize around k 19 = r at hv hr
  subst hv; subst hM
  simp only [go_sem, mk2]
  (repeat refine W_seq ?_); refine W_regionT [] ?_
  simp only [go_sem]
  (repeat refine W_seq ?_)
  refine W_block (W_loop (L_inv (fun j env M' => ∃ (x0 x1 x2 x5 x6 x7 x8 x9 x10 x11 x12 x13 x14 x15 x16 x17 x18 x19 x20 x21 x22 x23 x24 x25 x26 x27 x28 x29 x30 x31 x32 x33 x34 x35 x36 x37 x38 x39 x40 x41 x42 x43 x44 x45 x46 x47 x48 x49 x50 x51 x52 x53 x54 x55 x56 x57 x58 x59 x60 x61 x62 x63 x64 x65 x66 x67 x68 x69 x70 x71 x72 x73 x74 x75 x76 x77 x78 x79 x80 x81 x82 x83 x84 x85 x86 : AV) (i : Nat) (H' : List Block), env = [x0, x1, x2, .sl ⟨S.length + 1, 0, 0⟩ 2 (some 2), .int .i64 i, x5, x6, x7, x8, x9, x10, x11, x12, x13, x14, x15, x16, x17, x18, x19, x20, x21, x22, x23, x24, x25, x26, x27, x28, x29, x30, x31, x32, x33, x34, x35, x36, x37, x38, x39, x40, x41, x42, x43, x44, x45, x46, x47, x48, x49, x50, x51, x52, x53, x54, x55, x56, x57, x58, x59, x60, x61, x62, x63, x64, x65, x66, x67, x68, x69, x70, x71, x72, x73, x74, x75, x76, x77, x78, x79, x80, x81, x82, x83, x84, x85, x86] ∧ i + j = 2 ∧ M' = ⟨H', [Block.row ⟨3, 1, [.int .i64 k, .int .i64 r], false, false⟩] :: S⟩) (fun j env M2 => ?_) 2 ?_))
  case refine_2 => exact ⟨_, _, _, _, _, _, _, _, _, _, _, _, _, _, _, _, _, _, _, _, _, _, _, _, _, _, _, _, _, _, _, _, _, _, _, _, _, _, _, _, _, _, _, _, _, _, _, _, _, _, _, _, _, _, _, _, _, _, _, _, _, _, _, _, _, _, _, _, _, _, _, _, _, _, _, _, _, _, _, _, _, _, _, _, _, 0, H, rfl, rfl, rfl⟩
  rintro ⟨x0, x1, x2, x5, x6, x7, x8, x9, x10, x11, x12, x13, x14, x15, x16, x17, x18, x19, x20, x21, x22, x23, x24, x25, x26, x27, x28, x29, x30, x31, x32, x33, x34, x35, x36, x37, x38, x39, x40, x41, x42, x43, x44, x45, x46, x47, x48, x49, x50, x51, x52, x53, x54, x55, x56, x57, x58, x59, x60, x61, x62, x63, x64, x65, x66, x67, x68, x69, x70, x71, x72, x73, x74, x75, x76, x77, x78, x79, x80, x81, x82, x83, x84, x85, x86, i, H', rfl, hij, rfl⟩
  (repeat refine W_seq ?_); refine W_regionT [] ?_
  simp only [go_sem]
  (repeat refine W_seq ?_)
  refine W_cond_if rfl (fun hb => ?_) (fun hb => ?_)
  case refine_2 =>
    refine W_exit ?_
    simp only [go_sem]
    (repeat refine W_seq ?_); refine W_regionT [] ?_
    simp only [go_sem]
    refine AT_call rfl rfl lives20 fun v M1 hd1 ⟨hv, _, hM⟩ => ?_
    subst hv; subst hM
    simp only [go_sem]
    exact W_ret ⟨.inr rfl, _, rfl, rfl, rfl⟩
  have hi : i < 2 := by simp at hb; omega
  refine W_skip ?_
  simp only [go_sem]
  (repeat refine W_seq ?_)
  refine W_block ?_
  have hz : -9223372036854775808 ≤ (if i = 0 then k else r) ∧ (if i = 0 then k else r) < 9223372036854775808 := by split <;> omega
  (repeat refine W_seq ?_); refine W_regionT [] ?_
  simp only [go_sem, at2 hi, ld2 hi]
  have ld' : ∀ H'' : List Block, loadA Try.prog 3 (.ptr ⟨S.length + 1, 0, i⟩) ⟨H'', [Block.row ⟨3, 1, [.int .i64 k, .int .i64 r], false, false⟩] :: S⟩ = some (.int .i64 (if i = 0 then k else r)) := fun H'' => ld2 hi
  generalize (if i = 0 then k else r) = z at hz ld'
  refine AT_call rfl rfl newF fun v M1 hd1 h1 => ?_
  rcases h1 with ⟨hn, rfl, rfl⟩ | ⟨hn, rfl, rfl⟩
  case inr =>
    simp only [go_sem]
    by_cases hz1 : 1 ≤ z
    · have hz2 : ¬ z ≤ 16 := fun h => hn ⟨hz1, h⟩
      (repeat refine W_seq ?_); refine W_regionT [] ?_
      simp only [go_sem, at2 hi, ld', hz1, hz2]
      (repeat refine W_seq ?_); refine W_regionT [] ?_
      simp only [go_sem, nen, neb, show ¬ ((1 : Int) = 0) by decide]
      (repeat refine W_seq ?_)
      refine W_cond (b := false) rfl ?_
      simp only [Bool.false_eq_true, if_false]
      refine W_skip ?_
      simp only [go_sem]
      (repeat refine W_seq ?_); refine W_regionT [] ?_
      simp only [go_sem]
      refine W_block (W_loop (L_step ?_))
      (repeat refine W_seq ?_); refine W_regionT [] ?_
      simp only [go_sem, nen]
      (repeat refine W_seq ?_)
      refine W_cond (b := false) rfl ?_
      simp only [Bool.false_eq_true, if_false]
      refine W_exit ?_
      simp only [go_sem]
      (repeat refine W_seq ?_); refine W_regionT [] ?_
      simp only [go_sem, show (i : Int) + 1 = ((i + 1 : Nat) : Int) from rfl, wrap_i64 (n := ((i + 1 : Nat) : Int)) (by omega) (by omega)]
      exact ⟨j - 1, by omega, _, _, _, _, _, _, _, _, _, _, _, _, _, _, _, _, _, _, _, _, _, _, _, _, _, _, _, _, _, _, _, _, _, _, _, _, _, _, _, _, _, _, _, _, _, _, _, _, _, _, _, _, _, _, _, _, _, _, _, _, _, _, _, _, _, _, _, _, _, _, _, _, _, _, _, _, _, _, _, _, _, _, _, _, _, i + 1, _, rfl, by omega, rfl⟩
    · (repeat refine W_seq ?_); refine W_regionT [] ?_
      simp only [go_sem, at2 hi, ld', hz1]
      (repeat refine W_seq ?_); refine W_regionT [] ?_
      simp only [go_sem, nen, neb, show ¬ ((1 : Int) = 0) by decide]
      (repeat refine W_seq ?_)
      refine W_cond (b := false) rfl ?_
      simp only [Bool.false_eq_true, if_false]
      refine W_skip ?_
      simp only [go_sem]
      (repeat refine W_seq ?_); refine W_regionT [] ?_
      simp only [go_sem]
      refine W_block (W_loop (L_step ?_))
      (repeat refine W_seq ?_); refine W_regionT [] ?_
      simp only [go_sem, nen]
      (repeat refine W_seq ?_)
      refine W_cond (b := false) rfl ?_
      simp only [Bool.false_eq_true, if_false]
      refine W_exit ?_
      simp only [go_sem]
      (repeat refine W_seq ?_); refine W_regionT [] ?_
      simp only [go_sem, show (i : Int) + 1 = ((i + 1 : Nat) : Int) from rfl, wrap_i64 (n := ((i + 1 : Nat) : Int)) (by omega) (by omega)]
      exact ⟨j - 1, by omega, _, _, _, _, _, _, _, _, _, _, _, _, _, _, _, _, _, _, _, _, _, _, _, _, _, _, _, _, _, _, _, _, _, _, _, _, _, _, _, _, _, _, _, _, _, _, _, _, _, _, _, _, _, _, _, _, _, _, _, _, _, _, _, _, _, _, _, _, _, _, _, _, _, _, _, _, _, _, _, _, _, _, _, _, _, i + 1, _, rfl, by omega, rfl⟩
  simp only [go_sem]
  obtain ⟨hz1, hz2⟩ := hn
  have e0 : Fids ⟨H' ++ [.map (kv .i64 []), .row ⟨101, 2, [.int .i64 ((z.toNat : Nat) : Int), .map H'.length], false, false⟩], [Block.row ⟨3, 1, [.int .i64 k, .int .i64 r], false, false⟩] :: S⟩ (H'.length + 1) H'.length z.toNat [] := newFids
  generalize H' ++ [.map (kv .i64 []), .row ⟨101, 2, [.int .i64 ((z.toNat : Nat) : Int), .map H'.length], false, false⟩] = G at e0
  generalize H'.length + 1 = ix at e0
  generalize H'.length = mi at e0
  (repeat refine W_seq ?_); refine W_regionT [] ?_
  simp only [go_sem, at2 hi, ld', hz1, hz2]
  (repeat refine W_seq ?_); refine W_regionT [] ?_
  simp only [go_sem, nep, neb]
  (repeat refine W_seq ?_)
  refine W_cond (b := false) rfl ?_
  simp only [Bool.false_eq_true, if_false]
  refine W_skip ?_
  simp only [go_sem]
  (repeat refine W_seq ?_); refine W_regionT [] ?_
  simp only [go_sem]
  refine W_block (W_loop (L_inv (fun j2 env M' => ∃ (y0 y1 y2 y6 y7 y9 y10 y11 y12 y13 y14 y15 y16 y17 y18 y19 y20 y21 y22 y23 y24 y25 y26 y27 y28 y29 y30 y31 y32 y33 y34 y35 y36 y37 y38 y39 y40 y41 y42 y43 y44 y45 y46 y47 y48 y49 y50 y51 y52 y53 y54 y55 y56 y57 y58 y59 y60 y61 y62 y63 y64 y65 y66 y67 y68 y69 y70 y71 y72 y73 y74 y75 y76 y77 y78 y79 y80 y81 y82 y83 y84 y85 y86 : AV) (n : Nat) (G : List Block) (es : KV), env = [y0, y1, y2, .sl ⟨S.length + 1, 0, 0⟩ 2 (some 2), .int .i64 i, .ptr ⟨0, ix, 0⟩, y6, y7, .int .i64 n, y9, y10, y11, y12, y13, y14, y15, y16, y17, y18, y19, y20, y21, y22, y23, y24, y25, y26, y27, y28, y29, y30, y31, y32, y33, y34, y35, y36, y37, y38, y39, y40, y41, y42, y43, y44, y45, y46, y47, y48, y49, y50, y51, y52, y53, y54, y55, y56, y57, y58, y59, y60, y61, y62, y63, y64, y65, y66, y67, y68, y69, y70, y71, y72, y73, y74, y75, y76, y77, y78, y79, y80, y81, y82, y83, y84, y85, y86] ∧ n + j2 = 17 ∧ M' = ⟨G, [Block.row ⟨3, 1, [.int .i64 k, .int .i64 r], false, false⟩] :: S⟩ ∧ Fids ⟨G, [Block.row ⟨3, 1, [.int .i64 k, .int .i64 r], false, false⟩] :: S⟩ ix mi z.toNat es ∧ es.length = min n z.toNat ∧ ∀ e ∈ es, e.1 < n) (fun j2 env M2 => ?_) 17 ?_))
  case refine_2 => exact ⟨_, _, _, _, _, _, _, _, _, _, _, _, _, _, _, _, _, _, _, _, _, _, _, _, _, _, _, _, _, _, _, _, _, _, _, _, _, _, _, _, _, _, _, _, _, _, _, _, _, _, _, _, _, _, _, _, _, _, _, _, _, _, _, _, _, _, _, _, _, _, _, _, _, _, _, _, _, _, _, _, _, _, _, 0, G, [], rfl, rfl, rfl, e0, by simp, fun e he => by cases he⟩
  clear e0 G
  rintro ⟨y0, y1, y2, y6, y7, y9, y10, y11, y12, y13, y14, y15, y16, y17, y18, y19, y20, y21, y22, y23, y24, y25, y26, y27, y28, y29, y30, y31, y32, y33, y34, y35, y36, y37, y38, y39, y40, y41, y42, y43, y44, y45, y46, y47, y48, y49, y50, y51, y52, y53, y54, y55, y56, y57, y58, y59, y60, y61, y62, y63, y64, y65, y66, y67, y68, y69, y70, y71, y72, y73, y74, y75, y76, y77, y78, y79, y80, y81, y82, y83, y84, y85, y86, n, G, es, rfl, hnj, rfl, e0, hl, hlt⟩
  (repeat refine W_seq ?_); refine W_regionT [] ?_
  simp only [go_sem, nep]
  (repeat refine W_seq ?_)
  refine W_cond_if rfl (fun hb => ?_) (fun hb => ?_)
  case refine_2 =>
    refine W_exit ?_
    simp only [go_sem]
    (repeat refine W_seq ?_); refine W_regionT [] ?_
    simp only [go_sem, show (i : Int) + 1 = ((i + 1 : Nat) : Int) from rfl, wrap_i64 (n := ((i + 1 : Nat) : Int)) (by omega) (by omega)]
    exact ⟨j - 1, by omega, _, _, _, _, _, _, _, _, _, _, _, _, _, _, _, _, _, _, _, _, _, _, _, _, _, _, _, _, _, _, _, _, _, _, _, _, _, _, _, _, _, _, _, _, _, _, _, _, _, _, _, _, _, _, _, _, _, _, _, _, _, _, _, _, _, _, _, _, _, _, _, _, _, _, _, _, _, _, _, _, _, _, _, _, _, i + 1, _, rfl, by omega, rfl⟩
  have hn : n < 17 := by simp at hb; omega
  refine W_skip ?_
  simp only [go_sem]
  (repeat refine W_seq ?_)
  refine W_block ?_
  (repeat refine W_seq ?_); refine W_regionT [] ?_
  simp only [go_sem, build6]
  refine AT_call rfl rfl (add (n := (n : Int)) e0 ⟨_, rfl, rfl, rfl⟩) fun v M1 hd1 ⟨hv, hM⟩ => ?_
  have hg : getK es n = none := getK_none hlt
  by_cases hc : (n : Int) < z
  · have hf : freeF z.toNat es n = 0 := by simp only [freeF, hg, Option.isSome_none, Bool.false_eq_true, if_false]; rw [if_neg (by omega)]
    rw [hf] at hv hM
    rw [if_pos rfl, putK_new hg] at hM
    subst hv; subst hM
    simp only [go_sem]
    (repeat refine W_seq ?_); refine W_regionT [] ?_
    simp only [go_sem, at2 hi, ld', hc, neb]
    (repeat refine W_seq ?_)
    refine W_cond (b := false) rfl ?_
    simp only [Bool.false_eq_true, if_false]
    refine W_skip ?_
    simp only [go_sem]
    (repeat refine W_seq ?_); refine W_regionT [] ?_
    simp only [go_sem, show (n : Int) + 1 = ((n + 1 : Nat) : Int) from rfl, wrap_i64 (n := ((n + 1 : Nat) : Int)) (by omega) (by omega)]
    refine ⟨j2 - 1, by omega, _, _, _, _, _, _, _, _, _, _, _, _, _, _, _, _, _, _, _, _, _, _, _, _, _, _, _, _, _, _, _, _, _, _, _, _, _, _, _, _, _, _, _, _, _, _, _, _, _, _, _, _, _, _, _, _, _, _, _, _, _, _, _, _, _, _, _, _, _, _, _, _, _, _, _, _, _, _, _, _, _, _, _, n + 1, _, es ++ [(_, _)], rfl, by omega, rfl, e0.set ?_, by simp; omega, ?_⟩
    · intro e he
      rcases List.mem_append.1 he with h | h
      · exact e0.v e h
      · simp only [List.mem_singleton] at h; subst h; exact ⟨_, rfl, rfl, rfl⟩
    · intro e he
      rcases List.mem_append.1 he with h | h
      · have := hlt e h; omega
      · simp only [List.mem_singleton] at h; subst h; simp; omega
  · have hf : freeF z.toNat es n = 5 := by simp only [freeF, hg, Option.isSome_none, Bool.false_eq_true, if_false]; rw [if_pos (by omega)]
    rw [hf] at hv hM
    rw [if_neg (by decide)] at hM
    subst hv; subst hM
    simp only [go_sem]
    (repeat refine W_seq ?_); refine W_regionT [] ?_
    simp only [go_sem, at2 hi, ld', hc, neb, show ¬ ((5 : Int) = 0) by decide]
    (repeat refine W_seq ?_)
    refine W_cond (b := false) rfl ?_
    simp only [Bool.false_eq_true, if_false]
    refine W_skip ?_
    simp only [go_sem]
    (repeat refine W_seq ?_); refine W_regionT [] ?_
    simp only [go_sem, show (n : Int) + 1 = ((n + 1 : Nat) : Int) from rfl, wrap_i64 (n := ((n + 1 : Nat) : Int)) (by omega) (by omega)]
    refine ⟨j2 - 1, by omega, _, _, _, _, _, _, _, _, _, _, _, _, _, _, _, _, _, _, _, _, _, _, _, _, _, _, _, _, _, _, _, _, _, _, _, _, _, _, _, _, _, _, _, _, _, _, _, _, _, _, _, _, _, _, _, _, _, _, _, _, _, _, _, _, _, _, _, _, _, _, _, _, _, _, _, _, _, _, _, _, _, _, _, n + 1, _, es, rfl, by omega, rfl, e0, by omega, fun e he => ?_⟩
    have := hlt e he; omega
end
end Go.Proofs.Ytcjdckoabinndaa
