/- The walk of MuxNews and of MuxRounds. -/
import Derived.Test.YtcjdckoabinndaaMuxLaws
set_option maxRecDepth 100000
set_option maxHeartbeats 4000000
set_option linter.unusedSimpArgs false
set_option linter.unusedVariables false
namespace Go.Proofs.Ytcjdckoabinndaa
open Go.Abs
section
variable {H : List Block} {S : List (List Block)}
theorem newT3 {next k : Int} (hn : 0 ≤ next ∧ next < 4294967296) : AC Try.prog 24 [.int .u32 next, .int .i64 k] ⟨H, S⟩ (fun v M' => (1 ≤ k ∧ k ≤ 16 ∧ ∃ H', v = .tup [.ptr ⟨0, H.length + 1, 0⟩, .int .i64 0] ∧ M' = ⟨H ++ H', S⟩ ∧ MuxT ⟨H ++ H', S⟩ (H.length + 1) H.length next k.toNat []) ∨ (¬ 1 ≤ k ∧ v = .tup [.nilptr, .int .i64 1] ∧ M' = ⟨H, S⟩) ∨ (1 ≤ k ∧ ¬ k ≤ 16 ∧ v = .tup [.nilptr, .int .i64 1] ∧ M' = ⟨H, S⟩)) :=
  (newT hn).mono fun v M' h => by
    rcases h with h | ⟨h1, h2, h3⟩
    · exact .inl h
    · by_cases hk : 1 ≤ k
      · exact .inr (.inr ⟨hk, fun h => h1 ⟨hk, h⟩, h2, h3⟩)
      · exact .inr (.inl ⟨hk, h2, h3⟩)
theorem mI_keep {H H' : List Block} {S S' : List (List Block)} {ix mi most : Nat} {next : Int} {es : KV} (h : MuxI ⟨H, S⟩ ix mi next most es) (h1 : H'[ix]? = H[ix]?) (h2 : H'[mi]? = H[mi]?) : MuxI ⟨H', S'⟩ ix mi next most es :=
  ⟨by have := h.r; simp only [mem_get0] at *; rw [h1]; exact this, by have := h.m; simp only [mem_get0] at *; rw [h2]; exact this, h.v, h.n⟩
theorem mI_lt {ix mi most : Nat} {next : Int} {es : KV} (h : MuxI ⟨H, S⟩ ix mi next most es) : ix < H.length ∧ mi < H.length := by
  have h1 := h.r
  have h2 := h.m
  simp only [mem_get0] at h1 h2
  exact ⟨(List.getElem?_eq_some_iff.1 h1).1, (List.getElem?_eq_some_iff.1 h2).1⟩
theorem mI_more {H' : List Block} {S' : List (List Block)} {ix mi most : Nat} {next : Int} {es : KV} (h : MuxI ⟨H, S⟩ ix mi next most es) : MuxI ⟨H ++ H', S'⟩ ix mi next most es :=
  mI_keep h (List.getElem?_append_left (mI_lt h).1) (List.getElem?_append_left (mI_lt h).2)
theorem muxNews {k first : Int} (hk : -9223372036854775808 ≤ k) (hk2 : k < 9223372036854775808) (hf : 0 ≤ first ∧ first < 4294967296) : AC Try.prog 6 [.int .i64 k, .int .u32 first] ⟨H, S⟩ (fun v M' => v = .bool true) := by
  refine AC_of_WE Try.func6 rfl ?_
  simp only [Try.ntmps6, List.length_cons, List.length_nil, List.replicate, List.cons_append, List.nil_append, mem_enter]
  (repeat refine W_seq ?_); refine W_regionT [] ?_
  simp only [go_sem]
  (repeat refine W_seq ?_); refine W_regionT [] ?_
  simp only [go_sem, mk2]
  refine AT_call rfl rfl (aroundF hk hk2 (by decide)) fun v M1 hd1 h1 => ?_
  obtain ⟨hv, hM⟩ := h1
  have hr := around_range (n := k) (k := 19) (by decide)
  generalize around k 19 = r at hv hr
  subst hv; subst hM
  simp only [go_sem, mk2]
  (repeat refine W_seq ?_); refine W_regionT [] ?_
  simp only [go_sem]
  (repeat refine W_seq ?_)
  refine W_block (W_loop (L_inv (fun j env M' => ∃ (x0 x2 x3 x4 x7 x8 x9 x10 x11 x12 x13 x14 x15 x16 x17 x18 x19 x20 x21 x22 x23 x24 x25 x26 x27 x28 x29 x30 x31 x32 x33 x34 x35 x36 x37 x38 x39 x40 x41 x42 x43 x44 x45 x46 x47 x48 x49 x50 x51 x52 x53 x54 x55 x56 x57 x58 x59 x60 x61 x62 x63 x64 x65 x66 x67 x68 x69 x70 x71 x72 x73 x74 x75 x76 x77 x78 : AV) (i : Nat) (H' : List Block), env = [x0, .int .u32 first, x2, x3, x4, .sl ⟨S.length + 1, 0, 0⟩ 2 (some 2), .int .i64 i, x7, x8, x9, x10, x11, x12, x13, x14, x15, x16, x17, x18, x19, x20, x21, x22, x23, x24, x25, x26, x27, x28, x29, x30, x31, x32, x33, x34, x35, x36, x37, x38, x39, x40, x41, x42, x43, x44, x45, x46, x47, x48, x49, x50, x51, x52, x53, x54, x55, x56, x57, x58, x59, x60, x61, x62, x63, x64, x65, x66, x67, x68, x69, x70, x71, x72, x73, x74, x75, x76, x77, x78] ∧ i + j = 2 ∧ M' = ⟨H', [Block.row ⟨3, 1, [.int .i64 k, .int .i64 r], false, false⟩] :: S⟩) (fun j env M2 => ?_) (2) ?_))
  case refine_2 => exact ⟨_, _, _, _, _, _, _, _, _, _, _, _, _, _, _, _, _, _, _, _, _, _, _, _, _, _, _, _, _, _, _, _, _, _, _, _, _, _, _, _, _, _, _, _, _, _, _, _, _, _, _, _, _, _, _, _, _, _, _, _, _, _, _, _, _, _, _, _, _, _, _, _, _, _, _, _, 0, H, rfl, rfl, rfl⟩
  refine exE fun x0 => exE fun x2 => exE fun x3 => exE fun x4 => exE fun x7 => exE fun x8 => exE fun x9 => exE fun x10 => exE fun x11 => exE fun x12 => exE fun x13 => exE fun x14 => exE fun x15 => exE fun x16 => exE fun x17 => exE fun x18 => exE fun x19 => exE fun x20 => exE fun x21 => exE fun x22 => exE fun x23 => exE fun x24 => exE fun x25 => exE fun x26 => exE fun x27 => exE fun x28 => exE fun x29 => exE fun x30 => exE fun x31 => exE fun x32 => exE fun x33 => exE fun x34 => exE fun x35 => exE fun x36 => exE fun x37 => exE fun x38 => exE fun x39 => exE fun x40 => exE fun x41 => exE fun x42 => exE fun x43 => exE fun x44 => exE fun x45 => exE fun x46 => exE fun x47 => exE fun x48 => exE fun x49 => exE fun x50 => exE fun x51 => exE fun x52 => exE fun x53 => exE fun x54 => exE fun x55 => exE fun x56 => exE fun x57 => exE fun x58 => exE fun x59 => exE fun x60 => exE fun x61 => exE fun x62 => exE fun x63 => exE fun x64 => exE fun x65 => exE fun x66 => exE fun x67 => exE fun x68 => exE fun x69 => exE fun x70 => exE fun x71 => exE fun x72 => exE fun x73 => exE fun x74 => exE fun x75 => exE fun x76 => exE fun x77 => exE fun x78 => ?_
  rintro ⟨i, H', rfl, hij, rfl⟩
  (repeat refine W_seq ?_); refine W_regionT [] ?_
  simp only [go_sem]
  (repeat refine W_seq ?_)
  refine W_cond_if rfl (fun hb => ?_) (fun hb => ?_)
  · have hi : i < 2 := by simp at hb; omega
    refine W_skip ?_
    simp only [go_sem]
    (repeat refine W_seq ?_)
    refine W_block ?_
    (repeat refine W_seq ?_); refine W_regionT [] ?_
    simp only [go_sem, at2 hi, ld2 hi]
    have ld' : ∀ H'' : List Block, loadA Try.prog 3 (.ptr ⟨S.length + 1, 0, i⟩) ⟨H'', [Block.row ⟨3, 1, [.int .i64 k, .int .i64 r], false, false⟩] :: S⟩ = some (.int .i64 (if i = 0 then k else r)) := fun H'' => ld2 hi
    have hz : -9223372036854775808 ≤ (if i = 0 then k else r) ∧ (if i = 0 then k else r) < 9223372036854775808 := by split <;> omega
    generalize (if i = 0 then k else r) = z at hz ld'
    refine AT_call rfl rfl (newT3 hf) fun v M1 hd1 h1 => ?_
    rcases h1 with ⟨hz1, hz2, H1, rfl, rfl, e0⟩ | ⟨hz1, rfl, rfl⟩ | ⟨hz1, hz2, rfl, rfl⟩
    · generalize H' ++ H1 = G at e0
      generalize H'.length + 1 = ix at e0
      generalize H'.length = mi at e0
      simp only [go_sem, at2 hi, ld2 hi]
      (repeat refine W_seq ?_); refine W_regionT [] ?_
      simp only [go_sem, at2 hi, ld', hz1, hz2]
      (repeat refine W_seq ?_); refine W_regionT [] ?_
      simp only [go_sem, show ¬ ((1 : Int) = 0) by decide]
      (repeat refine W_seq ?_)
      refine W_cond (b := false) rfl ?_
      simp only [Bool.false_eq_true, if_false]
      refine W_skip ?_
      simp only [go_sem]
      (repeat refine W_seq ?_); refine W_regionT [] ?_
      simp only [go_sem]
      (repeat refine W_seq ?_)
      refine W_cond (b := false) rfl ?_
      simp only [Bool.false_eq_true, if_false]
      refine W_skip ?_
      simp only [go_sem]
      (repeat refine W_seq ?_); refine W_regionT [] ?_
      simp only [go_sem]
      refine AT_call rfl rfl (callT (p := 1) (x := .str [97]) e0 ⟨_, rfl⟩ (by simp)) fun v M1 hd1 h1 => ?_
      rcases h1 with ⟨hc, _⟩ | ⟨_, xid, H2, hs, rfl, rfl, _, e1⟩
      case inl => simp at hc; omega
      have hx := skips_here hs hf rfl
      subst hx
      have hl : (putK [] xid (.agg [.int .u32 1, .str [97]])).length = 1 := rfl
      simp only [go_sem]
      (repeat refine W_seq ?_); refine W_regionT [] ?_
      simp only [go_sem]
      refine AT_call rfl rfl (lenT e1) fun v M1 hd1 h1 => ?_
      obtain ⟨hv, hM⟩ := h1
      rw [hl] at hv
      subst hv; subst hM
      simp only [go_sem]
      (repeat refine W_seq ?_)
      refine W_cond (b := false) rfl ?_
      simp only [Bool.false_eq_true, if_false]
      refine W_skip ?_
      simp only [go_sem]
      (repeat refine W_seq ?_); refine W_regionT [] ?_
      simp only [go_sem, show (i : Int) + 1 = ((i + 1 : Nat) : Int) from rfl, wrap_i64 (n := ((i + 1 : Nat) : Int)) (by omega) (by omega)]
      refine ⟨j - 1, by omega, _, _, _, _, _, _, _, _, _, _, _, _, _, _, _, _, _, _, _, _, _, _, _, _, _, _, _, _, _, _, _, _, _, _, _, _, _, _, _, _, _, _, _, _, _, _, _, _, _, _, _, _, _, _, _, _, _, _, _, _, _, _, _, _, _, _, _, _, _, _, _, _, _, _, _, _, i + 1, _, rfl, by omega, rfl⟩
    · simp only [go_sem, at2 hi, ld2 hi]
      (repeat refine W_seq ?_); refine W_regionT [] ?_
      simp only [go_sem, at2 hi, ld', hz1]
      (repeat refine W_seq ?_); refine W_regionT [] ?_
      simp only [go_sem, show ¬ ((1 : Int) = 0) by decide]
      (repeat refine W_seq ?_)
      refine W_cond (b := false) rfl ?_
      simp only [Bool.false_eq_true, if_false]
      refine W_skip ?_
      simp only [go_sem]
      (repeat refine W_seq ?_); refine W_regionT [] ?_
      simp only [go_sem]
      (repeat refine W_seq ?_)
      refine W_cond (b := true) rfl ?_
      simp only [if_true]
      (repeat refine W_seq ?_)
      refine W_exit ?_
      simp only [go_sem]
      (repeat refine W_seq ?_); refine W_regionT [] ?_
      simp only [go_sem, show (i : Int) + 1 = ((i + 1 : Nat) : Int) from rfl, wrap_i64 (n := ((i + 1 : Nat) : Int)) (by omega) (by omega)]
      refine ⟨j - 1, by omega, _, _, _, _, _, _, _, _, _, _, _, _, _, _, _, _, _, _, _, _, _, _, _, _, _, _, _, _, _, _, _, _, _, _, _, _, _, _, _, _, _, _, _, _, _, _, _, _, _, _, _, _, _, _, _, _, _, _, _, _, _, _, _, _, _, _, _, _, _, _, _, _, _, _, _, _, i + 1, _, rfl, by omega, rfl⟩
    · simp only [go_sem, at2 hi, ld2 hi]
      (repeat refine W_seq ?_); refine W_regionT [] ?_
      simp only [go_sem, at2 hi, ld', hz1, hz2]
      (repeat refine W_seq ?_); refine W_regionT [] ?_
      simp only [go_sem, show ¬ ((1 : Int) = 0) by decide]
      (repeat refine W_seq ?_)
      refine W_cond (b := false) rfl ?_
      simp only [Bool.false_eq_true, if_false]
      refine W_skip ?_
      simp only [go_sem]
      (repeat refine W_seq ?_); refine W_regionT [] ?_
      simp only [go_sem]
      (repeat refine W_seq ?_)
      refine W_cond (b := true) rfl ?_
      simp only [if_true]
      (repeat refine W_seq ?_)
      refine W_exit ?_
      simp only [go_sem]
      (repeat refine W_seq ?_); refine W_regionT [] ?_
      simp only [go_sem, show (i : Int) + 1 = ((i + 1 : Nat) : Int) from rfl, wrap_i64 (n := ((i + 1 : Nat) : Int)) (by omega) (by omega)]
      refine ⟨j - 1, by omega, _, _, _, _, _, _, _, _, _, _, _, _, _, _, _, _, _, _, _, _, _, _, _, _, _, _, _, _, _, _, _, _, _, _, _, _, _, _, _, _, _, _, _, _, _, _, _, _, _, _, _, _, _, _, _, _, _, _, _, _, _, _, _, _, _, _, _, _, _, _, _, _, _, _, _, _, i + 1, _, rfl, by omega, rfl⟩
  · have hi : i = 2 := by simp at hb; omega
    (repeat refine W_seq ?_)
    refine W_exit ?_
    simp only [go_sem]
    (repeat refine W_seq ?_); refine W_regionT [] ?_
    simp only [go_sem]
    refine AT_call rfl rfl (lives07c) fun v M1 hd1 h1 => ?_
    obtain ⟨hv, hM⟩ := h1; subst hv; subst hM
    simp only [go_sem]
    exact W_ret ⟨.inr rfl, _, rfl, rfl, rfl⟩
theorem muxRounds {a b : Int} (ha : -9223372036854775808 ≤ a ∧ a < 9223372036854775808) (hb0 : -9223372036854775808 ≤ b ∧ b < 9223372036854775808) : AC Try.prog 7 [.int .i64 a, .int .i64 b] ⟨H, S⟩ (fun v M' => v = .bool true) := by
  refine AC_of_WE Try.func7 rfl ?_
  simp only [Try.ntmps7, List.length_cons, List.length_nil, List.replicate, List.cons_append, List.nil_append, mem_enter]
  (repeat refine W_seq ?_); refine W_regionT [] ?_
  simp only [go_sem]
  (repeat refine W_seq ?_); refine W_regionT [] ?_
  simp only [go_sem]
  refine AT_call rfl rfl (aroundF (by omega) (by omega) (by decide)) fun v M1 hd1 h1 => ?_
  obtain ⟨hv, hM⟩ := h1
  have hrx := around_range (n := a) (k := 5) (by decide)
  generalize around a 5 = rx at hv hrx
  obtain ⟨x, rfl⟩ : ∃ n : Nat, rx = n := ⟨rx.toNat, by omega⟩
  subst hv; subst hM
  simp only [go_sem]
  (repeat refine W_seq ?_); refine W_regionT [] ?_
  simp only [go_sem]
  refine AT_call rfl rfl (aroundF (by omega) (by omega) (by decide)) fun v M1 hd1 h1 => ?_
  obtain ⟨hv, hM⟩ := h1
  have hry := around_range (n := b) (k := 5) (by decide)
  generalize around b 5 = ry at hv hry
  obtain ⟨y, rfl⟩ : ∃ n : Nat, ry = n := ⟨ry.toNat, by omega⟩
  subst hv; subst hM
  simp only [go_sem]
  (repeat refine W_seq ?_); refine W_regionT [] ?_
  simp only [go_sem]
  refine AT_call rfl rfl (newI (by omega)) fun v M1 hd1 h1 => ?_
  rcases h1 with ⟨_, _, H1, rfl, rfl, e0⟩ | ⟨hk, _⟩
  case inr => exact absurd (by decide) hk
  rw [show ((16 : Int).toNat) = 16 from rfl] at e0
  generalize H ++ H1 = G at e0
  generalize H.length + 1 = ix at e0
  generalize H.length = mi at e0
  simp only [go_sem]
  (repeat refine W_seq ?_); refine W_regionT [] ?_
  simp only [go_sem]
  (repeat refine W_seq ?_)
  refine W_cond (b := false) rfl ?_
  simp only [Bool.false_eq_true, if_false]
  refine W_skip ?_
  simp only [go_sem]
  (repeat refine W_seq ?_); refine W_regionT [] ?_
  simp only [go_sem]
  (repeat refine W_seq ?_)
  refine W_block (W_loop (L_inv (fun j env M' => ∃ (u0 u1 u2 u3 u4 u8 u10 u11 u12 u13 u14 u15 u16 u17 u18 u19 u20 u21 u22 u23 u24 u25 u26 u27 u28 u29 u30 u31 u32 u33 u34 u35 u36 u37 u38 u39 u40 u41 u42 u43 u44 u45 u46 u47 u48 u49 u50 u51 u52 u53 u54 u55 u56 u57 u58 u59 u60 u61 u62 u63 u64 u65 u66 u67 u68 u69 u70 u71 u72 u73 u74 u75 u76 u77 u78 u79 u80 u81 u82 u83 u84 u85 u86 u87 u88 u89 u90 u91 u92 u93 u94 u95 u96 u97 u98 u99 u100 u101 u102 u103 u104 u105 u106 u107 u108 u109 u110 u111 u112 u113 : AV) (i : Nat) (G' : List Block) (es : KV), env = [u0, u1, u2, u3, u4, .int .i64 x, .int .i64 y, .ptr ⟨0, ix, 0⟩, u8, .int .i64 i, u10, u11, u12, u13, u14, u15, u16, u17, u18, u19, u20, u21, u22, u23, u24, u25, u26, u27, u28, u29, u30, u31, u32, u33, u34, u35, u36, u37, u38, u39, u40, u41, u42, u43, u44, u45, u46, u47, u48, u49, u50, u51, u52, u53, u54, u55, u56, u57, u58, u59, u60, u61, u62, u63, u64, u65, u66, u67, u68, u69, u70, u71, u72, u73, u74, u75, u76, u77, u78, u79, u80, u81, u82, u83, u84, u85, u86, u87, u88, u89, u90, u91, u92, u93, u94, u95, u96, u97, u98, u99, u100, u101, u102, u103, u104, u105, u106, u107, u108, u109, u110, u111, u112, u113] ∧ i + j = y ∧ M' = ⟨G', [] :: S⟩ ∧ RunOf es 0 i ∧ MuxI ⟨G', [] :: S⟩ ix mi ((0 + i) % 4294967296) 16 es) (fun j env M2 => ?_) (y) ?_))
  case refine_2 => exact ⟨_, _, _, _, _, _, _, _, _, _, _, _, _, _, _, _, _, _, _, _, _, _, _, _, _, _, _, _, _, _, _, _, _, _, _, _, _, _, _, _, _, _, _, _, _, _, _, _, _, _, _, _, _, _, _, _, _, _, _, _, _, _, _, _, _, _, _, _, _, _, _, _, _, _, _, _, _, _, _, _, _, _, _, _, _, _, _, _, _, _, _, _, _, _, _, _, _, _, _, _, _, _, _, _, _, _, _, _, _, _, 0, G, [], rfl, by omega, rfl, ⟨rfl, fun m => ⟨fun h => by simp [getK, pos] at h, fun ⟨i, hi, _⟩ => by omega⟩⟩, e0⟩
  refine exE fun u0 => exE fun u1 => exE fun u2 => exE fun u3 => exE fun u4 => exE fun u8 => exE fun u10 => exE fun u11 => exE fun u12 => exE fun u13 => exE fun u14 => exE fun u15 => exE fun u16 => exE fun u17 => exE fun u18 => exE fun u19 => exE fun u20 => exE fun u21 => exE fun u22 => exE fun u23 => exE fun u24 => exE fun u25 => exE fun u26 => exE fun u27 => exE fun u28 => exE fun u29 => exE fun u30 => exE fun u31 => exE fun u32 => exE fun u33 => exE fun u34 => exE fun u35 => exE fun u36 => exE fun u37 => exE fun u38 => exE fun u39 => exE fun u40 => exE fun u41 => exE fun u42 => exE fun u43 => exE fun u44 => exE fun u45 => exE fun u46 => exE fun u47 => exE fun u48 => exE fun u49 => exE fun u50 => exE fun u51 => exE fun u52 => exE fun u53 => exE fun u54 => exE fun u55 => exE fun u56 => exE fun u57 => exE fun u58 => exE fun u59 => exE fun u60 => exE fun u61 => exE fun u62 => exE fun u63 => exE fun u64 => exE fun u65 => exE fun u66 => exE fun u67 => exE fun u68 => exE fun u69 => exE fun u70 => exE fun u71 => exE fun u72 => exE fun u73 => exE fun u74 => exE fun u75 => exE fun u76 => exE fun u77 => exE fun u78 => exE fun u79 => exE fun u80 => exE fun u81 => exE fun u82 => exE fun u83 => exE fun u84 => exE fun u85 => exE fun u86 => exE fun u87 => exE fun u88 => exE fun u89 => exE fun u90 => exE fun u91 => exE fun u92 => exE fun u93 => exE fun u94 => exE fun u95 => exE fun u96 => exE fun u97 => exE fun u98 => exE fun u99 => exE fun u100 => exE fun u101 => exE fun u102 => exE fun u103 => exE fun u104 => exE fun u105 => exE fun u106 => exE fun u107 => exE fun u108 => exE fun u109 => exE fun u110 => exE fun u111 => exE fun u112 => exE fun u113 => ?_
  rintro ⟨i, G, es, rfl, hij, rfl, hrun, e1⟩
  (repeat refine W_seq ?_); refine W_regionT [] ?_
  simp only [go_sem]
  (repeat refine W_seq ?_)
  refine W_cond_if rfl (fun hb => ?_) (fun hb => ?_)
  · have hi : i < y := by simpa using hb
    refine W_skip ?_
    simp only [go_sem]
    (repeat refine W_seq ?_)
    refine W_block ?_
    (repeat refine W_seq ?_); refine W_regionT [] ?_
    simp only [go_sem]
    refine AT_call rfl rfl (callI (x := .int .i64 i) e1 ⟨_, rfl⟩ (by rw [hrun.1]; omega)) fun v M1 hd1 h1 => ?_
    obtain ⟨hg, hrun'⟩ := hrun.put (x := .agg [.int .u32 1, .int .i64 i]) (by omega)
    rcases h1 with ⟨hc, _⟩ | ⟨_, xid, H2, hs, rfl, rfl, _, e2⟩
    case inl => rw [hrun.1] at hc; omega
    have hx := skips_here hs (by omega) hg
    rw [hx] at e2
    have hx2 : xid = (i : Int) := by omega
    subst hx2
    simp only [go_sem]
    (repeat refine W_seq ?_); refine W_regionT [] ?_
    simp only [go_sem, wrap_i64 (n := (i : Int)) (by omega) (by omega)]
    (repeat refine W_seq ?_)
    refine W_cond (b := false) rfl ?_
    simp only [Bool.false_eq_true, if_false]
    refine W_skip ?_
    simp only [go_sem]
    (repeat refine W_seq ?_); refine W_regionT [] ?_
    simp only [go_sem, show (i : Int) + 1 = ((i + 1 : Nat) : Int) from rfl, wrap_i64 (n := ((i + 1 : Nat) : Int)) (by omega) (by omega)]
    refine ⟨j - 1, by omega, _, _, _, _, _, _, _, _, _, _, _, _, _, _, _, _, _, _, _, _, _, _, _, _, _, _, _, _, _, _, _, _, _, _, _, _, _, _, _, _, _, _, _, _, _, _, _, _, _, _, _, _, _, _, _, _, _, _, _, _, _, _, _, _, _, _, _, _, _, _, _, _, _, _, _, _, _, _, _, _, _, _, _, _, _, _, _, _, _, _, _, _, _, _, _, _, _, _, _, _, _, _, _, _, _, _, _, _, _, _, i + 1, H2, _, rfl, by omega, rfl, hrun', ?_⟩
    rw [show (0 + ((i + 1 : Nat) : Int)) % 4294967296 = ((0 + (i : Int)) % 4294967296 + 1) % 4294967296 by omega]
    exact e2
  · have hi : i = y := by simp at hb; omega
    rw [hi] at hrun e1
    (repeat refine W_seq ?_)
    refine W_exit ?_
    simp only [go_sem]
    (repeat refine W_seq ?_); refine W_regionT [] ?_
    simp only [go_sem, wrap_i64 (n := 4294967295 - (x : Int)) (by omega) (by omega), wrap_u32, show (4294967295 - (x : Int)) % 4294967296 = 4294967295 - x by omega]
    refine AT_call rfl rfl (newI (by omega)) fun v M1 hd1 h1 => ?_
    rcases h1 with ⟨_, _, H1, rfl, rfl, e2⟩ | ⟨hk, _⟩
    case inr => exact absurd (by decide) hk
    rw [show ((16 : Int).toNat) = 16 from rfl] at e2
    have e1' := mI_more (H' := H1) (S' := [] :: S) e1
    have hlt := mI_lt e1
    have hne : ix ≠ G.length + 1 ∧ ix ≠ G.length ∧ mi ≠ G.length + 1 ∧ mi ≠ G.length := by omega
    clear hlt e1
    generalize G ++ H1 = G2 at e1' e2
    generalize G.length + 1 = ix2 at e2 hne
    generalize G.length = mi2 at e2 hne
    simp only [go_sem, wrap_i64 (n := 4294967295 - (x : Int)) (by omega) (by omega), wrap_u32, show (4294967295 - (x : Int)) % 4294967296 = 4294967295 - x by omega]
    (repeat refine W_seq ?_); refine W_regionT [] ?_
    simp only [go_sem]
    (repeat refine W_seq ?_)
    refine W_cond (b := false) rfl ?_
    simp only [Bool.false_eq_true, if_false]
    refine W_skip ?_
    simp only [go_sem]
    (repeat refine W_seq ?_); refine W_regionT [] ?_
    simp only [go_sem]
    (repeat refine W_seq ?_)
    refine W_block (W_loop (L_inv (fun j2 env M' => ∃ (w0 w1 w2 w3 w4 w8 w9 w10 w11 w13 w15 w16 w17 w18 w19 w20 w21 w22 w23 w24 w25 w26 w27 w28 w29 w30 w31 w32 w33 w34 w35 w36 w37 w38 w39 w40 w41 w42 w43 w44 w45 w46 w47 w48 w49 w50 w51 w52 w53 w54 w55 w56 w57 w58 w59 w60 w61 w62 w63 w64 w65 w66 w67 w68 w69 w70 w71 w72 w73 w74 w75 w76 w77 w78 w79 w80 w81 w82 w83 w84 w85 w86 w87 w88 w89 w90 w91 w92 w93 w94 w95 w96 w97 w98 w99 w100 w101 w102 w103 w104 w105 w106 w107 w108 w109 w110 w111 w112 w113 : AV) (i : Nat) (G' : List Block) (es2 : KV), env = [w0, w1, w2, w3, w4, .int .i64 x, .int .i64 y, .ptr ⟨0, ix, 0⟩, w8, w9, w10, w11, .ptr ⟨0, ix2, 0⟩, w13, .int .i64 i, w15, w16, w17, w18, w19, w20, w21, w22, w23, w24, w25, w26, w27, w28, w29, w30, w31, w32, w33, w34, w35, w36, w37, w38, w39, w40, w41, w42, w43, w44, w45, w46, w47, w48, w49, w50, w51, w52, w53, w54, w55, w56, w57, w58, w59, w60, w61, w62, w63, w64, w65, w66, w67, w68, w69, w70, w71, w72, w73, w74, w75, w76, w77, w78, w79, w80, w81, w82, w83, w84, w85, w86, w87, w88, w89, w90, w91, w92, w93, w94, w95, w96, w97, w98, w99, w100, w101, w102, w103, w104, w105, w106, w107, w108, w109, w110, w111, w112, w113] ∧ i + j2 = x + 1 ∧ M' = ⟨G', [] :: S⟩ ∧ RunOf es2 (4294967295 - x) i ∧ MuxI ⟨G', [] :: S⟩ ix2 mi2 ((4294967295 - x + i) % 4294967296) 16 es2 ∧ MuxI ⟨G', [] :: S⟩ ix mi ((0 + y) % 4294967296) 16 es) (fun j2 env M2 => ?_) (x + 1) ?_))
    case refine_2 => exact ⟨_, _, _, _, _, _, _, _, _, _, _, _, _, _, _, _, _, _, _, _, _, _, _, _, _, _, _, _, _, _, _, _, _, _, _, _, _, _, _, _, _, _, _, _, _, _, _, _, _, _, _, _, _, _, _, _, _, _, _, _, _, _, _, _, _, _, _, _, _, _, _, _, _, _, _, _, _, _, _, _, _, _, _, _, _, _, _, _, _, _, _, _, _, _, _, _, _, _, _, _, _, _, _, _, _, _, _, _, _, 0, G2, [], rfl, by omega, rfl, ⟨rfl, fun m => ⟨fun h => by simp [getK, pos] at h, fun ⟨i, hi, _⟩ => by omega⟩⟩, by rw [show (4294967295 - (x : Int) + ((0 : Nat) : Int)) % 4294967296 = 4294967295 - x by omega]; exact e2, e1'⟩
    clear e2 e1'
    refine exE fun w0 => exE fun w1 => exE fun w2 => exE fun w3 => exE fun w4 => exE fun w8 => exE fun w9 => exE fun w10 => exE fun w11 => exE fun w13 => exE fun w15 => exE fun w16 => exE fun w17 => exE fun w18 => exE fun w19 => exE fun w20 => exE fun w21 => exE fun w22 => exE fun w23 => exE fun w24 => exE fun w25 => exE fun w26 => exE fun w27 => exE fun w28 => exE fun w29 => exE fun w30 => exE fun w31 => exE fun w32 => exE fun w33 => exE fun w34 => exE fun w35 => exE fun w36 => exE fun w37 => exE fun w38 => exE fun w39 => exE fun w40 => exE fun w41 => exE fun w42 => exE fun w43 => exE fun w44 => exE fun w45 => exE fun w46 => exE fun w47 => exE fun w48 => exE fun w49 => exE fun w50 => exE fun w51 => exE fun w52 => exE fun w53 => exE fun w54 => exE fun w55 => exE fun w56 => exE fun w57 => exE fun w58 => exE fun w59 => exE fun w60 => exE fun w61 => exE fun w62 => exE fun w63 => exE fun w64 => exE fun w65 => exE fun w66 => exE fun w67 => exE fun w68 => exE fun w69 => exE fun w70 => exE fun w71 => exE fun w72 => exE fun w73 => exE fun w74 => exE fun w75 => exE fun w76 => exE fun w77 => exE fun w78 => exE fun w79 => exE fun w80 => exE fun w81 => exE fun w82 => exE fun w83 => exE fun w84 => exE fun w85 => exE fun w86 => exE fun w87 => exE fun w88 => exE fun w89 => exE fun w90 => exE fun w91 => exE fun w92 => exE fun w93 => exE fun w94 => exE fun w95 => exE fun w96 => exE fun w97 => exE fun w98 => exE fun w99 => exE fun w100 => exE fun w101 => exE fun w102 => exE fun w103 => exE fun w104 => exE fun w105 => exE fun w106 => exE fun w107 => exE fun w108 => exE fun w109 => exE fun w110 => exE fun w111 => exE fun w112 => exE fun w113 => ?_
    rintro ⟨i, G, es2, rfl, hij2, rfl, hrun2, e2, e1⟩
    (repeat refine W_seq ?_); refine W_regionT [] ?_
    simp only [go_sem]
    (repeat refine W_seq ?_)
    refine W_cond_if rfl (fun hb => ?_) (fun hb => ?_)
    · have hi : i ≤ x := by simpa using hb
      refine W_skip ?_
      simp only [go_sem]
      (repeat refine W_seq ?_)
      refine W_block ?_
      (repeat refine W_seq ?_); refine W_regionT [] ?_
      simp only [go_sem]
      refine AT_call rfl rfl (callI (x := .int .i64 i) e2 ⟨_, rfl⟩ (by rw [hrun2.1]; omega)) fun v M1 hd1 h1 => ?_
      obtain ⟨hg, hrun'⟩ := hrun2.put (x := .agg [.int .u32 1, .int .i64 i]) (by omega)
      rcases h1 with ⟨hc, _⟩ | ⟨_, xid, H2, hs, rfl, rfl, hoff, e3⟩
      case inl => rw [hrun2.1] at hc; omega
      have hx := skips_here hs (by omega) hg
      rw [hx] at e3
      have hx2 : xid = 4294967295 - (x : Int) + (i : Int) := by omega
      subst hx2
      have e1'' := mI_keep (S' := [] :: S) e1 (hoff.2 ix hne.1 hne.2.1) (hoff.2 mi hne.2.2.1 hne.2.2.2)
      simp only [go_sem]
      (repeat refine W_seq ?_); refine W_regionT [] ?_
      simp only [go_sem, wrap_i64 (n := 4294967295 - (x : Int)) (by omega) (by omega), wrap_i64 (n := 4294967295 - (x : Int) + i) (by omega) (by omega), wrap_u32, show (4294967295 - (x : Int) + (i : Int)) % 4294967296 = 4294967295 - x + i by omega]
      (repeat refine W_seq ?_)
      refine W_cond (b := false) rfl ?_
      simp only [Bool.false_eq_true, if_false]
      refine W_skip ?_
      simp only [go_sem]
      (repeat refine W_seq ?_); refine W_regionT [] ?_
      simp only [go_sem, show (i : Int) + 1 = ((i + 1 : Nat) : Int) from rfl, wrap_i64 (n := ((i + 1 : Nat) : Int)) (by omega) (by omega)]
      refine ⟨j2 - 1, by omega, _, _, _, _, _, _, _, _, _, _, _, _, _, _, _, _, _, _, _, _, _, _, _, _, _, _, _, _, _, _, _, _, _, _, _, _, _, _, _, _, _, _, _, _, _, _, _, _, _, _, _, _, _, _, _, _, _, _, _, _, _, _, _, _, _, _, _, _, _, _, _, _, _, _, _, _, _, _, _, _, _, _, _, _, _, _, _, _, _, _, _, _, _, _, _, _, _, _, _, _, _, _, _, _, _, _, _, _, _, i + 1, H2, _, rfl, by omega, rfl, hrun', ?_, e1''⟩
      rw [show (4294967295 - (x : Int) + ((i + 1 : Nat) : Int)) % 4294967296 = ((4294967295 - (x : Int) + (i : Int)) % 4294967296 + 1) % 4294967296 by omega]
      exact e3
    · have hi : i = x + 1 := by simp at hb; omega
      subst hi
      (repeat refine W_seq ?_)
      refine W_exit ?_
      simp only [go_sem]
      (repeat refine W_seq ?_); refine W_regionT [] ?_
      simp only [go_sem]
      refine AT_call rfl rfl (callI (x := .int .i64 9) e2 ⟨_, rfl⟩ (by rw [hrun2.1]; omega)) fun v M1 hd1 h1 => ?_
      have hg : getK es2 0 = none := hrun2.none fun i hi => by omega
      rcases h1 with ⟨hc, _⟩ | ⟨_, xid, H2, hs, rfl, rfl, hoff, e3⟩
      case inl => rw [hrun2.1] at hc; omega
      rw [show (4294967295 - (x : Int) + ((x + 1 : Nat) : Int)) % 4294967296 = 0 by omega] at hs
      have hx := skips_here hs (by omega) hg
      subst hx
      have e1'' := mI_keep (S' := [] :: S) e1 (hoff.2 ix hne.1 hne.2.1) (hoff.2 mi hne.2.2.1 hne.2.2.2)
      have hl1 : es.length = y := hrun.1
      have hl2 : (putK es2 0 (.agg [.int .u32 1, .int .i64 9])).length = x + 2 := by rw [len_put hg, hrun2.1]
      simp only [go_sem]
      (repeat refine W_seq ?_); refine W_regionT [] ?_
      simp only [go_sem, wrap_i64 (n := (x : Int) + 2) (by omega) (by omega), show ((x + 2 : Nat) : Int) = (x : Int) + 2 from rfl]
      refine AT_call rfl rfl (lenI e1'') fun v M1 hd1 h1 => ?_
      obtain ⟨hv, hM⟩ := h1
      rw [hl1] at hv
      subst hv; subst hM
      simp only [go_sem, wrap_i64 (n := (x : Int) + 2) (by omega) (by omega), show ((x + 2 : Nat) : Int) = (x : Int) + 2 from rfl]
      refine AT_call rfl rfl (lenI e3) fun v M1 hd1 h1 => ?_
      obtain ⟨hv, hM⟩ := h1
      rw [hl2] at hv
      subst hv; subst hM
      simp only [go_sem, wrap_i64 (n := (x : Int) + 2) (by omega) (by omega), show ((x + 2 : Nat) : Int) = (x : Int) + 2 from rfl]
      refine AT_call rfl rfl (lives07c) fun v M1 hd1 h1 => ?_
      obtain ⟨hv, hM⟩ := h1; subst hv; subst hM
      simp only [go_sem, wrap_i64 (n := (x : Int) + 2) (by omega) (by omega), show ((x + 2 : Nat) : Int) = (x : Int) + 2 from rfl]
      exact W_ret ⟨.inr rfl, _, rfl, rfl, rfl⟩
end
end Go.Proofs.Ytcjdckoabinndaa
