/- The walk of mux's example and of MuxSkips. -/
import Derived.Test.YtcjdckoabinndaaMux
import Derived.Test.YtcjdckoabinndaaSmall
import Derived.Test.YtcjdckoabinndaaAbs27
set_option maxRecDepth 100000
set_option maxHeartbeats 4000000
set_option linter.unusedSimpArgs false
set_option linter.unusedVariables false
namespace Go.Proofs.Ytcjdckoabinndaa
open Go.Abs
theorem skips_here {es : KV} {next xid : Int} (h : Skips es next xid) (hn : 0 ≤ next ∧ next < 4294967296) (hg : getK es next = none) : xid = next := by
  obtain ⟨j, _, h1, h2, _⟩ := h
  cases j with
  | zero => rw [h1]; simp only [Int.ofNat_zero, Int.natCast_zero, Int.add_zero]; omega
  | succ j =>
    have := h2 0 (by omega)
    rw [show (next + ((0 : Nat) : Int)) % 4294967296 = next by omega, hg] at this
    cases this
theorem pos_append {n m : Int} {x : AV} : ∀ (es : KV) (i : Nat), pos n (es ++ [(m, x)]) i = match pos n es i with | some r => some r | none => if n = m then some (i + es.length, x) else none
  | [], i => by simp only [List.nil_append, pos, List.length_nil, Nat.add_zero]
  | e :: es, i => by
    simp only [List.cons_append, pos]
    split
    · rfl
    · rw [pos_append es (i + 1)]
      simp only [List.length_cons, show i + 1 + es.length = i + (es.length + 1) by omega]
theorem getK_none_iff {es : KV} {n : Int} : getK es n = none ↔ pos n es 0 = none := by
  unfold getK; cases pos n es 0 <;> simp
theorem putK_none {es : KV} {n : Int} {x : AV} (h : getK es n = none) : putK es n x = es ++ [(n, x)] := by
  unfold putK; rw [getK_none_iff.1 h]
theorem getK_put {es : KV} {n m : Int} {x : AV} (h : getK es n = none) : getK (putK es n x) m = if m = n then some x else getK es m := by
  rw [putK_none h]
  unfold getK
  rw [pos_append]
  by_cases hm : m = n
  · subst hm
    rw [getK_none_iff.1 h, if_pos rfl, if_pos rfl]; rfl
  · rw [if_neg hm, if_neg hm]
    cases pos m es 0 <;> rfl
theorem len_put {es : KV} {n : Int} {x : AV} (h : getK es n = none) : (putK es n x).length = es.length + 1 := by rw [putK_none h]; simp
theorem del_put {es : KV} {n : Int} {x : AV} (h : getK es n = none) : delK (putK es n x) n = es := by
  rw [putK_none h]
  unfold delK
  rw [pos_append, getK_none_iff.1 h, if_pos rfl]
  simp [List.eraseIdx_append_of_length_le]
section
variable {H : List Block} {S : List (List Block)}
theorem lives07  : AC Try.prog 21 [] ⟨H, S⟩ (fun v M' => v = .bool true ∧ ∃ H', M' = ⟨H', S⟩) := by
  refine AC_of_WE Try.func21 rfl ?_
  simp only [Try.ntmps21, List.length_cons, List.length_nil, List.replicate, List.cons_append, List.nil_append, mem_enter]
  (repeat refine W_seq ?_); refine W_regionT [] ?_
  simp only [go_sem]
  (repeat refine W_seq ?_); refine W_regionT [] ?_
  simp only [go_sem]
  refine AT_call rfl rfl (newI (by omega)) fun v M1 hd1 h1 => ?_
  rcases h1 with ⟨_, _, H1, rfl, rfl, e0⟩ | ⟨hk, _⟩
  case inr => exact absurd (by decide) hk
  simp only [go_sem]
  (repeat refine W_seq ?_); refine W_regionT [] ?_
  simp only [go_sem]
  (repeat refine W_seq ?_)
  refine W_cond (b := false) rfl ?_
  simp only [Bool.false_eq_true, if_false]
  refine W_skip ?_
  simp only [go_sem]
  generalize H ++ H1 = G at e0
  (repeat refine W_seq ?_); refine W_regionT [] ?_
  simp only [go_sem]
  refine AT_call rfl rfl (callI (x := .int .i64 7) e0 ⟨_, rfl⟩ (by decide)) fun v M1 hd1 h1 => ?_
  rcases h1 with ⟨hc, _⟩ | ⟨_, xid, H2, hs, rfl, rfl, _, e1⟩
  case inl => simp at hc
  have hx := skips_here hs (by omega) rfl
  subst hx
  simp only [go_sem]
  rw [show ((4294967295 : Int) + 1) % 4294967296 = 0 from rfl] at e1
  (repeat refine W_seq ?_); refine W_regionT [] ?_
  simp only [go_sem]
  refine AT_call rfl rfl (callI (x := .int .i64 8) e1 ⟨_, rfl⟩ (by decide)) fun v M1 hd1 h1 => ?_
  rcases h1 with ⟨hc, _⟩ | ⟨_, xid, H3, hs2, rfl, rfl, _, e2⟩
  case inl => simp [putK, pos] at hc
  have hx := skips_here hs2 (by omega) rfl
  subst hx
  simp only [go_sem]
  (repeat refine W_seq ?_); refine W_regionT [] ?_
  simp only [go_sem]
  refine AT_call rfl rfl (matchI (n := 0) (q := 3) e2) fun v M1 hd1 h1 => ?_
  rcases h1 with ⟨hc, _⟩ | ⟨p, y, hg, h2⟩
  · simp [getK, putK, pos] at hc
  have hg' : getK (putK (putK [] 4294967295 (.agg [.int .u32 3, .int .i64 7])) 0 (.agg [.int .u32 3, .int .i64 8])) 0 = some (.agg [.int .u32 3, .int .i64 8]) := rfl
  rw [hg'] at hg
  cases hg
  rcases h2 with ⟨h3, _⟩ | ⟨_, rfl, rfl⟩
  · exact absurd rfl h3
  simp only [go_sem]
  (repeat refine W_seq ?_); refine W_regionT [] ?_
  simp only [go_sem]
  exact W_ret ⟨.inr rfl, _, rfl, rfl, rfl, _, rfl⟩
/-- The numbers from 'first' on, n of them, wait, and no other one. -/
def RunOf (es : KV) (first : Int) (n : Nat) : Prop := es.length = n ∧ ∀ m : Int, (getK es m).isSome = true ↔ ∃ i : Nat, i < n ∧ m = (first + i) % 4294967296
theorem RunOf.none {es : KV} {first m : Int} {n : Nat} (h : RunOf es first n) (hm : ∀ i : Nat, i < n → m ≠ (first + i) % 4294967296) : getK es m = none := by
  cases hg : getK es m with
  | none => rfl
  | some x =>
    obtain ⟨i, hi, he⟩ := (h.2 m).1 (by rw [hg]; rfl)
    exact absurd he (hm i hi)
theorem RunOf.put {es : KV} {first : Int} {n : Nat} {x : AV} (h : RunOf es first n) (hn : n < 100) : getK es ((first + n) % 4294967296) = Option.none ∧ RunOf (putK es ((first + n) % 4294967296) x) first (n + 1) := by
  have hg : getK es ((first + n) % 4294967296) = Option.none := h.none fun i hi => by omega
  refine ⟨hg, by rw [len_put hg, h.1], fun m => ?_⟩
  rw [getK_put hg]
  by_cases hm : m = (first + n) % 4294967296
  · rw [if_pos hm]
    exact ⟨fun _ => ⟨n, by omega, hm⟩, fun _ => rfl⟩
  · rw [if_neg hm, h.2 m]
    constructor
    · rintro ⟨i, hi, he⟩; exact ⟨i, by omega, he⟩
    · rintro ⟨i, hi, he⟩
      refine ⟨i, ?_, he⟩
      rcases Nat.lt_or_ge i n with h1 | h1
      · exact h1
      · exact absurd (by rw [he, show i = n by omega]) hm
/-- Where the next number has gone back to. -/
def wantOf (first : Int) (n k : Nat) : Int := if n < k then (first + n - k) % 4294967296 else (first + n) % 4294967296
theorem skip_run {es : KV} {first xid : Int} {n k : Nat} (h : RunOf es first n) (hn : n < 100) (hk : k < 100) (hs : Skips es ((first + n - k) % 4294967296) xid) : xid = wantOf first n k ∧ getK es xid = Option.none := by
  obtain ⟨j, _, h1, h2, h3⟩ := hs
  have hnone : getK es xid = Option.none := by
    cases hg : getK es xid with
    | none => rfl
    | some y => rw [hg] at h3; cases h3
  refine ⟨?_, hnone⟩
  unfold wantOf
  by_cases hnk : n < k
  · rw [if_pos hnk]
    cases j with
    | zero => rw [h1]; omega
    | succ j =>
      have h4 := h2 0 (by omega)
      obtain ⟨i, hi, he⟩ := (h.2 _).1 h4
      omega
  · rw [if_neg hnk]
    have hj1 : ¬ j < k := by
      intro hj
      have : (getK es xid).isSome = true := (h.2 _).2 ⟨n - k + j, by omega, by rw [h1]; omega⟩
      rw [h3] at this; cases this
    have hj2 : ¬ k < j := by
      intro hj
      obtain ⟨i, hi, he⟩ := (h.2 _).1 (h2 k hj)
      omega
    rw [h1]; omega
theorem lives07c {M : Mem} : AC Try.prog 21 [] M (fun v M' => v = .bool true ∧ M' = M) :=
  (AC_closed rfl (lives07 (H := []) (S := [])) (fun v M' h => by rw [h.1]; rfl)).mono fun v M' h => ⟨h.1.choose_spec.1, h.2⟩
end
end Go.Proofs.Ytcjdckoabinndaa
