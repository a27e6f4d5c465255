/- The walk of MuxSkips. -/
import Derived.Test.YtcjdckoabinndaaMuxLaws
set_option maxRecDepth 100000
set_option maxHeartbeats 4000000
set_option linter.unusedSimpArgs false
set_option linter.unusedVariables false
namespace Go.Proofs.Ytcjdckoabinndaa
open Go.Abs
section
variable {H : List Block} {S : List (List Block)}
theorem muxSkips {first many back : Int} (hf : 0 ≤ first ∧ first < 4294967296) (hm : -9223372036854775808 ≤ many ∧ many < 9223372036854775808) (hb : -9223372036854775808 ≤ back ∧ back < 9223372036854775808) : AC Try.prog 8 [.int .u32 first, .int .i64 many, .int .i64 back] ⟨H, S⟩ (fun v M' => v = .bool true) := by
  refine AC_of_WE Try.func8 rfl ?_
  simp only [Try.ntmps8, List.length_cons, List.length_nil, List.replicate, List.cons_append, List.nil_append, mem_enter]
  (repeat refine W_seq ?_); refine W_regionT [] ?_
  simp only [go_sem]
  (repeat refine W_seq ?_); refine W_regionT [] ?_
  simp only [go_sem]
  refine AT_call rfl rfl (newI hf) fun v M1 hd1 h1 => ?_
  rcases h1 with ⟨_, _, H1, rfl, rfl, e0⟩ | ⟨hk, _⟩
  case inr => exact absurd (by decide) hk
  simp only [go_sem]
  (repeat refine W_seq ?_); refine W_regionT [] ?_
  simp only [go_sem]
  (repeat refine W_seq ?_)
  refine W_cond (b := false) rfl ?_
  simp only [Bool.false_eq_true, if_false]
  refine W_skip ?_
  simp only [go_sem]
  generalize H ++ H1 = G at e0
  generalize H.length + 1 = ix at e0
  generalize H.length = mi at e0
  rw [show ((7 : Int).toNat) = 7 from rfl] at e0
  (repeat refine W_seq ?_); refine W_regionT [] ?_
  simp only [go_sem]
  refine AT_call rfl rfl (aroundF hm.1 hm.2 (by decide)) fun v M1 hd1 ⟨hv, hM⟩ => ?_
  have hr := around_range (n := many) (k := 6) (by decide)
  generalize around many 6 = r at hv hr
  obtain ⟨n, rfl⟩ : ∃ n : Nat, r = n := ⟨r.toNat, by omega⟩
  subst hv; subst hM
  simp only [go_sem]
  (repeat refine W_seq ?_); refine W_regionT [] ?_
  simp only [go_sem]
  (repeat refine W_seq ?_)
  refine W_block (W_loop (L_inv (fun j env M' => ∃ (x1 x3 x4 x5 x6 x8 x11 x12 x13 x14 x15 x16 x17 x18 x19 x20 x21 x22 x23 x24 x25 x26 x27 x28 x29 x30 x31 x32 x33 x34 x35 x36 x37 x38 x39 x40 x41 x42 x43 x44 x45 x46 x47 x48 x49 x50 x51 x52 x53 x54 x55 x56 x57 x58 x59 x60 x61 x62 x63 x64 x65 x66 x67 x68 x69 x70 x71 x72 x73 x74 x75 x76 x77 x78 x79 x80 x81 x82 x83 x84 x85 x86 x87 x88 x89 x90 x91 x92 x93 x94 x95 x96 x97 x98 x99 x100 x101 x102 x103 x104 x105 x106 x107 x108 x109 x110 x111 x112 : AV) (i : Nat) (G' : List Block) (es : KV), env = [.int .u32 first, x1, .int .i64 back, x3, x4, x5, x6, .ptr ⟨0, ix, 0⟩, x8, .int .i64 n, .int .i64 i, x11, x12, x13, x14, x15, x16, x17, x18, x19, x20, x21, x22, x23, x24, x25, x26, x27, x28, x29, x30, x31, x32, x33, x34, x35, x36, x37, x38, x39, x40, x41, x42, x43, x44, x45, x46, x47, x48, x49, x50, x51, x52, x53, x54, x55, x56, x57, x58, x59, x60, x61, x62, x63, x64, x65, x66, x67, x68, x69, x70, x71, x72, x73, x74, x75, x76, x77, x78, x79, x80, x81, x82, x83, x84, x85, x86, x87, x88, x89, x90, x91, x92, x93, x94, x95, x96, x97, x98, x99, x100, x101, x102, x103, x104, x105, x106, x107, x108, x109, x110, x111, x112] ∧ i + j = n ∧ M' = ⟨G', [] :: S⟩ ∧ RunOf es first i ∧ MuxI ⟨G', [] :: S⟩ ix mi ((first + i) % 4294967296) 7 es) (fun j env M2 => ?_) n ?_))
  case refine_2 => exact ⟨_, _, _, _, _, _, _, _, _, _, _, _, _, _, _, _, _, _, _, _, _, _, _, _, _, _, _, _, _, _, _, _, _, _, _, _, _, _, _, _, _, _, _, _, _, _, _, _, _, _, _, _, _, _, _, _, _, _, _, _, _, _, _, _, _, _, _, _, _, _, _, _, _, _, _, _, _, _, _, _, _, _, _, _, _, _, _, _, _, _, _, _, _, _, _, _, _, _, _, _, _, _, _, _, _, _, _, _, 0, G, [], rfl, by omega, rfl, ⟨rfl, fun m => ⟨fun h => by simp [getK, pos] at h, fun ⟨i, hi, _⟩ => by omega⟩⟩, by rw [show (first + ((0 : Nat) : Int)) % 4294967296 = first by omega]; exact e0⟩
  refine exE fun x1 => exE fun x3 => exE fun x4 => exE fun x5 => exE fun x6 => exE fun x8 => exE fun x11 => exE fun x12 => exE fun x13 => exE fun x14 => exE fun x15 => exE fun x16 => exE fun x17 => exE fun x18 => exE fun x19 => exE fun x20 => exE fun x21 => exE fun x22 => exE fun x23 => exE fun x24 => exE fun x25 => exE fun x26 => exE fun x27 => exE fun x28 => exE fun x29 => exE fun x30 => exE fun x31 => exE fun x32 => exE fun x33 => exE fun x34 => exE fun x35 => exE fun x36 => exE fun x37 => exE fun x38 => exE fun x39 => exE fun x40 => exE fun x41 => exE fun x42 => exE fun x43 => exE fun x44 => exE fun x45 => exE fun x46 => exE fun x47 => exE fun x48 => exE fun x49 => exE fun x50 => exE fun x51 => exE fun x52 => exE fun x53 => exE fun x54 => exE fun x55 => exE fun x56 => exE fun x57 => exE fun x58 => exE fun x59 => exE fun x60 => exE fun x61 => exE fun x62 => exE fun x63 => exE fun x64 => exE fun x65 => exE fun x66 => exE fun x67 => exE fun x68 => exE fun x69 => exE fun x70 => exE fun x71 => exE fun x72 => exE fun x73 => exE fun x74 => exE fun x75 => exE fun x76 => exE fun x77 => exE fun x78 => exE fun x79 => exE fun x80 => exE fun x81 => exE fun x82 => exE fun x83 => exE fun x84 => exE fun x85 => exE fun x86 => exE fun x87 => exE fun x88 => exE fun x89 => exE fun x90 => exE fun x91 => exE fun x92 => exE fun x93 => exE fun x94 => exE fun x95 => exE fun x96 => exE fun x97 => exE fun x98 => exE fun x99 => exE fun x100 => exE fun x101 => exE fun x102 => exE fun x103 => exE fun x104 => exE fun x105 => exE fun x106 => exE fun x107 => exE fun x108 => exE fun x109 => exE fun x110 => exE fun x111 => exE fun x112 => ?_
  rintro ⟨i, G, es, rfl, hij, rfl, hrun, e1⟩
  (repeat refine W_seq ?_); refine W_regionT [] ?_
  simp only [go_sem]
  (repeat refine W_seq ?_)
  refine W_cond_if rfl (fun hb1 => ?_) (fun hb1 => ?_)
  · have hi : i < n := by simpa using hb1
    refine W_skip ?_
    simp only [go_sem]
    (repeat refine W_seq ?_)
    refine W_block ?_
    (repeat refine W_seq ?_); refine W_regionT [] ?_
    simp only [go_sem]
    refine AT_call rfl rfl (callI (x := .int .i64 i) e1 ⟨_, rfl⟩ (by rw [hrun.1]; omega)) fun v M1 hd1 h1 => ?_
    obtain ⟨hg, hrun'⟩ := hrun.put (x := .agg [.int .u32 1, .int .i64 i]) (by omega)
    rcases h1 with ⟨hc, _⟩ | ⟨_, xid, H2, hs, rfl, rfl, _, e2⟩
    case inl => rw [hrun.1] at hc; omega
    have hx := skips_here hs (by omega) hg
    rw [hx] at e2
    have hx2 : xid = (first + (i : Int) % 4294967296) % 4294967296 := by omega
    subst hx2
    simp only [go_sem]
    (repeat refine W_seq ?_); refine W_regionT [] ?_
    simp only [go_sem, wrap_u32]
    (repeat refine W_seq ?_)
    refine W_cond (b := false) rfl ?_
    simp only [Bool.false_eq_true, if_false]
    refine W_skip ?_
    simp only [go_sem]
    (repeat refine W_seq ?_); refine W_regionT [] ?_
    simp only [go_sem, show (i : Int) + 1 = ((i + 1 : Nat) : Int) from rfl, wrap_i64 (n := ((i + 1 : Nat) : Int)) (by omega) (by omega)]
    refine ⟨j - 1, by omega, _, _, _, _, _, _, _, _, _, _, _, _, _, _, _, _, _, _, _, _, _, _, _, _, _, _, _, _, _, _, _, _, _, _, _, _, _, _, _, _, _, _, _, _, _, _, _, _, _, _, _, _, _, _, _, _, _, _, _, _, _, _, _, _, _, _, _, _, _, _, _, _, _, _, _, _, _, _, _, _, _, _, _, _, _, _, _, _, _, _, _, _, _, _, _, _, _, _, _, _, _, _, _, _, _, _, _, _, i + 1, H2, _, rfl, by omega, rfl, hrun', ?_⟩
    rw [show (first + ((i + 1 : Nat) : Int)) % 4294967296 = ((first + (i : Int)) % 4294967296 + 1) % 4294967296 by omega]
    exact e2
  have hi : i = n := by simp at hb1; omega
  subst hi
  refine W_exit ?_
  simp only [go_sem]
  (repeat refine W_seq ?_); refine W_regionT [] ?_
  simp only [go_sem]
  refine AT_call rfl rfl (aroundF hb.1 hb.2 (by decide)) fun v M1 hd1 ⟨hv, hM⟩ => ?_
  have hr2 := around_range (n := back) (k := 6) (by decide)
  generalize around back 6 = r at hv hr2
  obtain ⟨k, rfl⟩ : ∃ k : Nat, r = k := ⟨r.toNat, by omega⟩
  subst hv; subst hM
  simp only [go_sem]
  (repeat refine W_seq ?_); refine W_regionT [] ?_
  simp only [go_sem, wrap_u32]
  refine AT_call rfl rfl (seekI e1 (by omega)) fun v M1 hd1 ⟨H2, hM, _, e2⟩ => ?_
  subst hM
  rw [show ((first + (i : Int) % 4294967296) % 4294967296 - (k : Int) % 4294967296) % 4294967296 = (first + i - k) % 4294967296 by omega] at e2
  simp only [go_sem]
  (repeat refine W_seq ?_); refine W_regionT [] ?_
  simp only [go_sem]
  refine AT_call rfl rfl (callI (x := .int .i64 9) e2 ⟨_, rfl⟩ (by rw [hrun.1]; omega)) fun v M1 hd1 h1 => ?_
  rcases h1 with ⟨hc, _⟩ | ⟨_, xid, H3, hs, rfl, rfl, _, e3⟩
  case inl => rw [hrun.1] at hc; omega
  obtain ⟨hx, hg⟩ := skip_run hrun (by omega) (by omega) hs
  have hlen : (delK (putK es xid (.agg [.int .u32 2, .int .i64 9])) xid).length = i := by rw [del_put hg]; exact hrun.1
  have hget : getK (putK es xid (.agg [.int .u32 2, .int .i64 9])) xid = some (.agg [.int .u32 2, .int .i64 9]) := by rw [getK_put hg, if_pos rfl]
  simp only [go_sem]
  (repeat refine W_seq ?_); refine W_regionT [] ?_
  simp only [go_sem, wrap_u32]
  (repeat refine W_seq ?_); refine W_regionT [] ?_
  simp only [go_sem]
  have fin : ∀ (x16 : AV) (env' : List AV), x16 = .int .u32 xid → True := fun _ _ _ => trivial
  clear fin
  refine W_cond_if rfl (fun hb2 => ?_) (fun hb2 => ?_)
  · have hik : i < k := by simpa using hb2
    have hxx : xid = ((first + (i : Int) % 4294967296) % 4294967296 - (k : Int) % 4294967296) % 4294967296 := by rw [hx, wantOf, if_pos hik]; omega
    (repeat refine W_seq ?_); refine W_regionT [] ?_
    simp only [go_sem, wrap_u32, ← hxx]
    (repeat refine W_seq ?_); refine W_regionT [] ?_
    simp only [go_sem]
    refine AT_call rfl rfl (matchI (n := xid) (q := 2) e3) fun v M1 hd1 h1 => ?_
    rcases h1 with ⟨hc, _⟩ | ⟨p, y, hg2, h2⟩
    · rw [hget] at hc; cases hc
    rw [hget] at hg2
    cases hg2
    rcases h2 with ⟨h3, _⟩ | ⟨_, rfl, rfl⟩
    · exact absurd rfl h3
    have e4 := mI_set (S' := [] :: S) e3 (es' := delK (putK es xid (.agg [.int .u32 2, .int .i64 9])) xid) (delK_v e3.v)
    simp only [go_sem]
    (repeat refine W_seq ?_); refine W_regionT [] ?_
    simp only [go_sem]
    refine AT_call rfl rfl (lenI e4) fun v M1 hd1 ⟨hv, hM⟩ => ?_
    rw [hlen] at hv
    subst hv; subst hM
    simp only [go_sem]
    refine AT_call rfl rfl lives07 fun v M1 hd1 ⟨hv, _, hM⟩ => ?_
    subst hv; subst hM
    simp only [go_sem]
    exact W_ret ⟨.inr rfl, _, rfl, rfl, rfl⟩
  have hik : ¬ i < k := by simpa using hb2
  have hxx : xid = (first + (i : Int) % 4294967296) % 4294967296 := by rw [hx, wantOf, if_neg hik]; omega
  refine W_skip ?_
  simp only [go_sem, ← hxx]
  (repeat refine W_seq ?_); refine W_regionT [] ?_
  simp only [go_sem]
  refine AT_call rfl rfl (matchI (n := xid) (q := 2) e3) fun v M1 hd1 h1 => ?_
  rcases h1 with ⟨hc, _⟩ | ⟨p, y, hg2, h2⟩
  · rw [hget] at hc; cases hc
  rw [hget] at hg2
  cases hg2
  rcases h2 with ⟨h3, _⟩ | ⟨_, rfl, rfl⟩
  · exact absurd rfl h3
  have e4 := mI_set (S' := [] :: S) e3 (es' := delK (putK es xid (.agg [.int .u32 2, .int .i64 9])) xid) (delK_v e3.v)
  simp only [go_sem]
  (repeat refine W_seq ?_); refine W_regionT [] ?_
  simp only [go_sem]
  refine AT_call rfl rfl (lenI e4) fun v M1 hd1 ⟨hv, hM⟩ => ?_
  rw [hlen] at hv
  subst hv; subst hM
  simp only [go_sem]
  refine AT_call rfl rfl lives07 fun v M1 hd1 ⟨hv, _, hM⟩ => ?_
  subst hv; subst hM
  simp only [go_sem]
  exact W_ret ⟨.inr rfl, _, rfl, rfl, rfl⟩
end
end Go.Proofs.Ytcjdckoabinndaa
