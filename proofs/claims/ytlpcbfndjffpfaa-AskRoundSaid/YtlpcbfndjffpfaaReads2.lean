/- The walk through the two readers, texts and data. -/
import Derived.Test.YtlpcbfndjffpfaaReads
set_option maxRecDepth 100000
set_option maxHeartbeats 4000000
set_option linter.unusedSimpArgs false
set_option linter.unusedVariables false
namespace Go.Proofs.Ytlpcbfndjffpfaa
open Go.Abs
section
variable {H H' : List Block} {S : List (List Block)} {p q : Nat → Prop} {ix n : Nat} {s : RS}
theorem bytes84 (h : RfAt q H ix s) (hq : ¬ q ix) (hn : n < 4611686018427387904) : AC Try.prog 84 [.ptr ⟨0, ix, 0⟩, .int .i64 n] ⟨H, S⟩ (ReadB q H S ix (RfAt q) (rTake s n)) := by
  refine AC_of_WE Try.func84 rfl ?_
  simp only [Try.ntmps84, List.length_cons, List.length_nil, List.replicate, List.cons_append, List.nil_append, mem_enter]
  obtain ⟨l, e⟩ := s
  obtain ⟨vb, B, i, hr, hb, hi, hl, hB, hqv⟩ := h
  simp only at hr hb hl
  have hlt := (List.getElem?_eq_some_iff.1 hr).1
  have hll : l.length = B.length - i := by rw [hl]; simp
  have hnq : ∀ k, q k → ¬ k = ix := fun k hk e => hq (by rw [← e]; exact hk)
  (repeat refine W_seq ?_); refine W_regionT [] ?_
  simp only [go_sem]
  rcases (show e ≠ 0 ∨ e = 0 by omega) with he | he
  · have hx : ¬ e = 0 := he
    (repeat refine W_seq ?_); refine W_regionT [] ?_
    simp only [go_sem, rf_a0 hr, rf_a1 hr, rf_a2 hr, rf_l0 hr, rf_l1 hr, rf_l2 hr, hb.len, hx]
    (repeat refine W_seq ?_)
    refine W_cond (b := true) rfl ?_
    simp only [if_true]
    (repeat refine W_seq ?_); refine W_regionT [] ?_
    simp only [go_sem]
    refine W_ret ⟨.inr rfl, _, rfl, rfl, H, rfl, UpdH.refl, ?_⟩
    have hv : rTake (l, e) n = ([], (l, e)) := by simp [rTake, he]
    rw [hv]
    exact ⟨⟨vb, B, i, hr, hb, hi, hl, hB, hqv⟩, BH.nil, fun k hk => hk.elim⟩
  · subst he
    have hx := eq_self (0 : Int)
    (repeat refine W_seq ?_); refine W_regionT [] ?_
    simp only [go_sem, rf_a0 hr, rf_a1 hr, rf_a2 hr, rf_l0 hr, rf_l1 hr, rf_l2 hr, hb.len, hx]
    (repeat refine W_seq ?_)
    refine W_cond (b := false) rfl ?_
    simp only [Bool.false_eq_true, if_false]
    refine W_skip ?_
    simp only [go_sem]
    by_cases hc : (B.length : Int) - (i : Int) < (n : Int)
    · have hx := hc
      (repeat refine W_seq ?_); refine W_regionC [] [] [0, 1, 2, 3, 4, 5, 6, 7, 8, 9, 10, 11] [0, 1, 3, 7, 15, 0, 32, 96, 224, 511, 0, 2047] mixedM (by kernel_rfl) (by kernel_rfl) (by kernel_rfl) (by kernel_rfl) ?_
      simp only [listed, go_sem, rf_a0 hr, rf_a1 hr, rf_a2 hr, rf_l0 hr, rf_l1 hr, rf_l2 hr, hb.len, hx, wrap_i64 (n := (B.length : Int) - (i : Int)) (by omega) (by omega), List.map_cons, List.map_nil]
      (repeat refine W_seq ?_)
      refine W_cond (b := true) rfl ?_
      simp only [if_true]
      (repeat refine W_seq ?_); refine W_regionT [] ?_
      simp only [go_sem, rf_a0 hr, rf_a1 hr, rf_a2 hr, rf_l0 hr, rf_l1 hr, rf_l2 hr, hb.len, rf_s2 hr]
      (repeat refine W_seq ?_); refine W_regionT [] ?_
      simp only [go_sem]
      refine W_ret ⟨.inr rfl, _, rfl, rfl, _, rfl, UpdH.set, ?_⟩
      have hv : rTake (l, 0) n = ([], (l, 3)) := by simp [rTake, show l.length < n by omega]
      rw [hv]
      exact ⟨⟨vb, B, i, set_row hlt, hb.upd UpdH.set (fun k hk => hnq k (hqv k hk)), hi, hl, hB, hqv⟩, BH.nil, fun k hk => hk.elim⟩
    · have hx := hc
      (repeat refine W_seq ?_); refine W_regionC [] [] [0, 1, 2, 3, 4, 5, 6, 7, 8, 9, 10, 11] [0, 1, 3, 7, 15, 0, 32, 96, 224, 511, 0, 2047] mixedM (by kernel_rfl) (by kernel_rfl) (by kernel_rfl) (by kernel_rfl) ?_
      simp only [listed, go_sem, rf_a0 hr, rf_a1 hr, rf_a2 hr, rf_l0 hr, rf_l1 hr, rf_l2 hr, hb.len, hx, wrap_i64 (n := (B.length : Int) - (i : Int)) (by omega) (by omega), List.map_cons, List.map_nil]
      (repeat refine W_seq ?_)
      refine W_cond (b := false) rfl ?_
      simp only [Bool.false_eq_true, if_false]
      refine W_skip ?_
      simp only [go_sem]
      obtain ⟨v1, a1, b1, c1⟩ := hb.cut (S := [] :: S) (lo := some (.int .i64 i)) (hi := some (.int .i64 ((i + n : Nat) : Int))) (a := i) (b := i + n) (by simp [onat, natOf]) (by simp only [onat, natOf]; rw [if_pos (by omega)]; rfl) (by omega) (by omega)
      (repeat refine W_seq ?_); refine W_regionC [] [] [0, 1, 2, 3, 4, 5, 6, 7, 8, 9, 10, 11, 12, 13, 14, 15] [0, 1, 3, 7, 0, 16, 48, 112, 0, 256, 768, 1792, 0, 7936, 16383, 32767] mixedM (by kernel_rfl) (by kernel_rfl) (by kernel_rfl) (by kernel_rfl) ?_
      simp only [listed, go_sem, rf_a0 hr, rf_a1 hr, rf_a2 hr, rf_l0 hr, rf_l1 hr, rf_l2 hr, hb.len, show IntKind.wrap .i64 ((i : Int) + (n : Int)) = ((i + n : Nat) : Int) by rw [wrap_i64 (by omega) (by omega)]; push_cast; rfl, a1, List.map_cons, List.map_nil]
      (repeat refine W_seq ?_); refine W_regionT [] ?_
      simp only [go_sem, rf_a0 hr, rf_a1 hr, rf_a2 hr, rf_l0 hr, rf_l1 hr, rf_l2 hr, hb.len, show IntKind.wrap .i64 ((i : Int) + (n : Int)) = ((i + n : Nat) : Int) by rw [wrap_i64 (by omega) (by omega)]; push_cast; rfl, rf_s1 hr]
      (repeat refine W_seq ?_); refine W_regionT [] ?_
      simp only [go_sem]
      refine W_ret ⟨.inr rfl, _, rfl, RH.lev0 b1, _, rfl, UpdH.set, ?_⟩
      have hv : rTake (l, 0) n = (l.take n, (l.drop n, 0)) := by simp [rTake, show ¬ l.length < n by omega]
      rw [hv]
      have hb1 : (B.take (i + n)).drop i = l.take n := by rw [hl, List.take_drop, Nat.add_comm]
      rw [hb1] at b1
      exact ⟨⟨vb, B, i + n, set_row hlt, hb.upd UpdH.set (fun k hk => hnq k (hqv k hk)), by omega, by simp [hl], hB, hqv⟩, b1.upd UpdH.set (fun k hk => hnq k (hqv k (c1 k hk))), fun k hk => hqv k (c1 k hk)⟩
theorem number36_1 (h : RfAt q H ix s) (hq : ¬ q ix) : AC Try.prog 36 [.ptr ⟨0, ix, 0⟩, .int .i64 (1 : Nat)] ⟨H, S⟩ (fun v M' => v = .int .u64 ((rNum s 1).1 : Nat) ∧ ∃ H', M' = ⟨H', S⟩ ∧ UpdH (· = ix) H H' ∧ RfAt q H' ix (rNum s 1).2) := by
  refine AC_of_WE Try.func36 rfl ?_
  simp only [Try.ntmps36, List.length_cons, List.length_nil, List.replicate, List.cons_append, List.nil_append, mem_enter]
  (repeat refine W_seq ?_); refine W_regionT [] ?_
  simp only [go_sem]
  (repeat refine W_seq ?_); refine W_regionT [] ?_
  simp only [go_sem]
  refine AT_call rfl rfl (bytes84 h hq (by omega)) fun v M1 hd1 h1 => ?_
  obtain ⟨H1, rfl, u1, r1, b1, _⟩ := h1
  have hle := rTake_len (s := s) (n := 1)
  generalize hl : (rTake s 1).1 = l at b1 hle
  have hle1 : l.length ≤ 1 := hle.1
  have hlv2 : (rNum s 1).1 = ofLe l := by rw [rNum, hl]
  simp only [go_sem]
  (repeat refine W_seq ?_); refine W_regionT [] ?_
  simp only [go_sem]
  (repeat refine W_seq ?_); refine W_regionT [] ?_
  simp only [go_sem, b1.len, wrap_i64 (n := (l.length : Int) - 1) (by omega) (by omega)]
  (repeat refine W_seq ?_)
  refine W_block (W_loop (L_inv (fun j env M' => ∃ (x0 x1 x2 x3 x4 x8 x9 x10 x11 x12 x13 x14 x15 x16 x17 x18 x19 x20 x21 x22 x23 x24 x25 x26 : AV) (u : Unit), env = [x0, x1, x2, x3, x4, v, .int .u64 (ofLe (l.drop j) : Nat), .int .i64 ((j : Int) - 1), x8, x9, x10, x11, x12, x13, x14, x15, x16, x17, x18, x19, x20, x21, x22, x23, x24, x25, x26] ∧ j ≤ l.length ∧ M' = ⟨H1, [] :: S⟩) (fun j env M2 => ?_) (l.length) ?_))
  case refine_2 => exact ⟨_, _, _, _, _, _, _, _, _, _, _, _, _, _, _, _, _, _, _, _, _, _, _, _, (), by rw [List.drop_length]; rfl, Nat.le_refl _, rfl⟩
  refine exE fun x0 => exE fun x1 => exE fun x2 => exE fun x3 => exE fun x4 => exE fun x8 => exE fun x9 => exE fun x10 => exE fun x11 => exE fun x12 => exE fun x13 => exE fun x14 => exE fun x15 => exE fun x16 => exE fun x17 => exE fun x18 => exE fun x19 => exE fun x20 => exE fun x21 => exE fun x22 => exE fun x23 => exE fun x24 => exE fun x25 => exE fun x26 => ?_
  rintro ⟨_, rfl, hij, rfl⟩
  (repeat refine W_seq ?_); refine W_regionT [] ?_
  simp only [go_sem]
  (repeat refine W_seq ?_)
  refine W_cond_if rfl (fun hb => ?_) (fun hb => ?_)
  · have hi : 0 ≤ (j : Int) - 1 := by simpa using hb
    refine W_skip ?_
    simp only [go_sem]
    (repeat refine W_seq ?_)
    refine W_block ?_
    obtain ⟨m, rfl⟩ : ∃ m, j = m + 1 := ⟨j - 1, by omega⟩
    have hm : m < l.length := by omega
    obtain ⟨q1, a1, a2⟩ := b1.at (S := [] :: S) (kk := .i64) hm
    have hd := ofLe_drop hm
    have hbd : ofLe (l.drop m) < 18446744073709551616 := by
      have h1 := ofLe_lt (l.drop m)
      have h2 : 256 ^ (l.drop m).length ≤ 256 ^ 8 := Nat.pow_le_pow_right (by decide) (by simp; omega)
      have h3 : (256 : Nat) ^ 8 = 18446744073709551616 := by decide
      omega
    have hm1 : ((m + 1 : Nat) : Int) - 1 = (m : Int) := by omega
    have hc8 := l[m].toNat_lt
    have ew1 : IntKind.wrap .u64 (256 * ((ofLe (l.drop (m + 1)) : Nat) : Int)) = ((256 * ofLe (l.drop (m + 1)) : Nat) : Int) := by rw [wrap_u64]; omega
    have ew2 : IntKind.wrap .u64 ((l[m].toNat : Nat) : Int) = (l[m].toNat : Nat) := by rw [wrap_u64]; omega
    have ew3 : IntKind.wrap .u64 (((256 * ofLe (l.drop (m + 1)) : Nat) : Int) + ((l[m].toNat : Nat) : Int)) = ((ofLe (l.drop m) : Nat) : Int) := by rw [wrap_u64]; omega
    (repeat refine W_seq ?_); refine W_regionT [] ?_
    simp only [go_sem, hm1, a1, a2, ew1, ew2, ew3]
    (repeat refine W_seq ?_); refine W_regionT [] ?_
    simp only [go_sem, hm1, wrap_i64 (n := (m : Int) - 1) (by omega) (by omega)]
    exact ⟨m, by omega, _, _, _, _, _, _, _, _, _, _, _, _, _, _, _, _, _, _, _, _, _, _, _, _, (), rfl, by omega, trivial⟩
  · have hi : j = 0 := by simp at hb; omega
    subst hi
    rw [List.drop_zero]
    (repeat refine W_seq ?_)
    refine W_exit ?_
    simp only [go_sem]
    (repeat refine W_seq ?_); refine W_regionT [] ?_
    simp only [go_sem]
    exact W_ret ⟨.inr rfl, _, rfl, rfl, by rw [hlv2]; rfl, H1, rfl, u1, by rw [rNum]; exact r1⟩
theorem number36_2 (h : RfAt q H ix s) (hq : ¬ q ix) : AC Try.prog 36 [.ptr ⟨0, ix, 0⟩, .int .i64 (2 : Nat)] ⟨H, S⟩ (fun v M' => v = .int .u64 ((rNum s 2).1 : Nat) ∧ ∃ H', M' = ⟨H', S⟩ ∧ UpdH (· = ix) H H' ∧ RfAt q H' ix (rNum s 2).2) := by
  refine AC_of_WE Try.func36 rfl ?_
  simp only [Try.ntmps36, List.length_cons, List.length_nil, List.replicate, List.cons_append, List.nil_append, mem_enter]
  (repeat refine W_seq ?_); refine W_regionT [] ?_
  simp only [go_sem]
  (repeat refine W_seq ?_); refine W_regionT [] ?_
  simp only [go_sem]
  refine AT_call rfl rfl (bytes84 h hq (by omega)) fun v M1 hd1 h1 => ?_
  obtain ⟨H1, rfl, u1, r1, b1, _⟩ := h1
  have hle := rTake_len (s := s) (n := 2)
  generalize hl : (rTake s 2).1 = l at b1 hle
  have hle1 : l.length ≤ 2 := hle.1
  have hlv2 : (rNum s 2).1 = ofLe l := by rw [rNum, hl]
  simp only [go_sem]
  (repeat refine W_seq ?_); refine W_regionT [] ?_
  simp only [go_sem]
  (repeat refine W_seq ?_); refine W_regionT [] ?_
  simp only [go_sem, b1.len, wrap_i64 (n := (l.length : Int) - 1) (by omega) (by omega)]
  (repeat refine W_seq ?_)
  refine W_block (W_loop (L_inv (fun j env M' => ∃ (x0 x1 x2 x3 x4 x8 x9 x10 x11 x12 x13 x14 x15 x16 x17 x18 x19 x20 x21 x22 x23 x24 x25 x26 : AV) (u : Unit), env = [x0, x1, x2, x3, x4, v, .int .u64 (ofLe (l.drop j) : Nat), .int .i64 ((j : Int) - 1), x8, x9, x10, x11, x12, x13, x14, x15, x16, x17, x18, x19, x20, x21, x22, x23, x24, x25, x26] ∧ j ≤ l.length ∧ M' = ⟨H1, [] :: S⟩) (fun j env M2 => ?_) (l.length) ?_))
  case refine_2 => exact ⟨_, _, _, _, _, _, _, _, _, _, _, _, _, _, _, _, _, _, _, _, _, _, _, _, (), by rw [List.drop_length]; rfl, Nat.le_refl _, rfl⟩
  refine exE fun x0 => exE fun x1 => exE fun x2 => exE fun x3 => exE fun x4 => exE fun x8 => exE fun x9 => exE fun x10 => exE fun x11 => exE fun x12 => exE fun x13 => exE fun x14 => exE fun x15 => exE fun x16 => exE fun x17 => exE fun x18 => exE fun x19 => exE fun x20 => exE fun x21 => exE fun x22 => exE fun x23 => exE fun x24 => exE fun x25 => exE fun x26 => ?_
  rintro ⟨_, rfl, hij, rfl⟩
  (repeat refine W_seq ?_); refine W_regionT [] ?_
  simp only [go_sem]
  (repeat refine W_seq ?_)
  refine W_cond_if rfl (fun hb => ?_) (fun hb => ?_)
  · have hi : 0 ≤ (j : Int) - 1 := by simpa using hb
    refine W_skip ?_
    simp only [go_sem]
    (repeat refine W_seq ?_)
    refine W_block ?_
    obtain ⟨m, rfl⟩ : ∃ m, j = m + 1 := ⟨j - 1, by omega⟩
    have hm : m < l.length := by omega
    obtain ⟨q1, a1, a2⟩ := b1.at (S := [] :: S) (kk := .i64) hm
    have hd := ofLe_drop hm
    have hbd : ofLe (l.drop m) < 18446744073709551616 := by
      have h1 := ofLe_lt (l.drop m)
      have h2 : 256 ^ (l.drop m).length ≤ 256 ^ 8 := Nat.pow_le_pow_right (by decide) (by simp; omega)
      have h3 : (256 : Nat) ^ 8 = 18446744073709551616 := by decide
      omega
    have hm1 : ((m + 1 : Nat) : Int) - 1 = (m : Int) := by omega
    have hc8 := l[m].toNat_lt
    have ew1 : IntKind.wrap .u64 (256 * ((ofLe (l.drop (m + 1)) : Nat) : Int)) = ((256 * ofLe (l.drop (m + 1)) : Nat) : Int) := by rw [wrap_u64]; omega
    have ew2 : IntKind.wrap .u64 ((l[m].toNat : Nat) : Int) = (l[m].toNat : Nat) := by rw [wrap_u64]; omega
    have ew3 : IntKind.wrap .u64 (((256 * ofLe (l.drop (m + 1)) : Nat) : Int) + ((l[m].toNat : Nat) : Int)) = ((ofLe (l.drop m) : Nat) : Int) := by rw [wrap_u64]; omega
    (repeat refine W_seq ?_); refine W_regionT [] ?_
    simp only [go_sem, hm1, a1, a2, ew1, ew2, ew3]
    (repeat refine W_seq ?_); refine W_regionT [] ?_
    simp only [go_sem, hm1, wrap_i64 (n := (m : Int) - 1) (by omega) (by omega)]
    exact ⟨m, by omega, _, _, _, _, _, _, _, _, _, _, _, _, _, _, _, _, _, _, _, _, _, _, _, _, (), rfl, by omega, trivial⟩
  · have hi : j = 0 := by simp at hb; omega
    subst hi
    rw [List.drop_zero]
    (repeat refine W_seq ?_)
    refine W_exit ?_
    simp only [go_sem]
    (repeat refine W_seq ?_); refine W_regionT [] ?_
    simp only [go_sem]
    exact W_ret ⟨.inr rfl, _, rfl, rfl, by rw [hlv2]; rfl, H1, rfl, u1, by rw [rNum]; exact r1⟩
theorem number36_4 (h : RfAt q H ix s) (hq : ¬ q ix) : AC Try.prog 36 [.ptr ⟨0, ix, 0⟩, .int .i64 (4 : Nat)] ⟨H, S⟩ (fun v M' => v = .int .u64 ((rNum s 4).1 : Nat) ∧ ∃ H', M' = ⟨H', S⟩ ∧ UpdH (· = ix) H H' ∧ RfAt q H' ix (rNum s 4).2) := by
  refine AC_of_WE Try.func36 rfl ?_
  simp only [Try.ntmps36, List.length_cons, List.length_nil, List.replicate, List.cons_append, List.nil_append, mem_enter]
  (repeat refine W_seq ?_); refine W_regionT [] ?_
  simp only [go_sem]
  (repeat refine W_seq ?_); refine W_regionT [] ?_
  simp only [go_sem]
  refine AT_call rfl rfl (bytes84 h hq (by omega)) fun v M1 hd1 h1 => ?_
  obtain ⟨H1, rfl, u1, r1, b1, _⟩ := h1
  have hle := rTake_len (s := s) (n := 4)
  generalize hl : (rTake s 4).1 = l at b1 hle
  have hle1 : l.length ≤ 4 := hle.1
  have hlv2 : (rNum s 4).1 = ofLe l := by rw [rNum, hl]
  simp only [go_sem]
  (repeat refine W_seq ?_); refine W_regionT [] ?_
  simp only [go_sem]
  (repeat refine W_seq ?_); refine W_regionT [] ?_
  simp only [go_sem, b1.len, wrap_i64 (n := (l.length : Int) - 1) (by omega) (by omega)]
  (repeat refine W_seq ?_)
  refine W_block (W_loop (L_inv (fun j env M' => ∃ (x0 x1 x2 x3 x4 x8 x9 x10 x11 x12 x13 x14 x15 x16 x17 x18 x19 x20 x21 x22 x23 x24 x25 x26 : AV) (u : Unit), env = [x0, x1, x2, x3, x4, v, .int .u64 (ofLe (l.drop j) : Nat), .int .i64 ((j : Int) - 1), x8, x9, x10, x11, x12, x13, x14, x15, x16, x17, x18, x19, x20, x21, x22, x23, x24, x25, x26] ∧ j ≤ l.length ∧ M' = ⟨H1, [] :: S⟩) (fun j env M2 => ?_) (l.length) ?_))
  case refine_2 => exact ⟨_, _, _, _, _, _, _, _, _, _, _, _, _, _, _, _, _, _, _, _, _, _, _, _, (), by rw [List.drop_length]; rfl, Nat.le_refl _, rfl⟩
  refine exE fun x0 => exE fun x1 => exE fun x2 => exE fun x3 => exE fun x4 => exE fun x8 => exE fun x9 => exE fun x10 => exE fun x11 => exE fun x12 => exE fun x13 => exE fun x14 => exE fun x15 => exE fun x16 => exE fun x17 => exE fun x18 => exE fun x19 => exE fun x20 => exE fun x21 => exE fun x22 => exE fun x23 => exE fun x24 => exE fun x25 => exE fun x26 => ?_
  rintro ⟨_, rfl, hij, rfl⟩
  (repeat refine W_seq ?_); refine W_regionT [] ?_
  simp only [go_sem]
  (repeat refine W_seq ?_)
  refine W_cond_if rfl (fun hb => ?_) (fun hb => ?_)
  · have hi : 0 ≤ (j : Int) - 1 := by simpa using hb
    refine W_skip ?_
    simp only [go_sem]
    (repeat refine W_seq ?_)
    refine W_block ?_
    obtain ⟨m, rfl⟩ : ∃ m, j = m + 1 := ⟨j - 1, by omega⟩
    have hm : m < l.length := by omega
    obtain ⟨q1, a1, a2⟩ := b1.at (S := [] :: S) (kk := .i64) hm
    have hd := ofLe_drop hm
    have hbd : ofLe (l.drop m) < 18446744073709551616 := by
      have h1 := ofLe_lt (l.drop m)
      have h2 : 256 ^ (l.drop m).length ≤ 256 ^ 8 := Nat.pow_le_pow_right (by decide) (by simp; omega)
      have h3 : (256 : Nat) ^ 8 = 18446744073709551616 := by decide
      omega
    have hm1 : ((m + 1 : Nat) : Int) - 1 = (m : Int) := by omega
    have hc8 := l[m].toNat_lt
    have ew1 : IntKind.wrap .u64 (256 * ((ofLe (l.drop (m + 1)) : Nat) : Int)) = ((256 * ofLe (l.drop (m + 1)) : Nat) : Int) := by rw [wrap_u64]; omega
    have ew2 : IntKind.wrap .u64 ((l[m].toNat : Nat) : Int) = (l[m].toNat : Nat) := by rw [wrap_u64]; omega
    have ew3 : IntKind.wrap .u64 (((256 * ofLe (l.drop (m + 1)) : Nat) : Int) + ((l[m].toNat : Nat) : Int)) = ((ofLe (l.drop m) : Nat) : Int) := by rw [wrap_u64]; omega
    (repeat refine W_seq ?_); refine W_regionT [] ?_
    simp only [go_sem, hm1, a1, a2, ew1, ew2, ew3]
    (repeat refine W_seq ?_); refine W_regionT [] ?_
    simp only [go_sem, hm1, wrap_i64 (n := (m : Int) - 1) (by omega) (by omega)]
    exact ⟨m, by omega, _, _, _, _, _, _, _, _, _, _, _, _, _, _, _, _, _, _, _, _, _, _, _, _, (), rfl, by omega, trivial⟩
  · have hi : j = 0 := by simp at hb; omega
    subst hi
    rw [List.drop_zero]
    (repeat refine W_seq ?_)
    refine W_exit ?_
    simp only [go_sem]
    (repeat refine W_seq ?_); refine W_regionT [] ?_
    simp only [go_sem]
    exact W_ret ⟨.inr rfl, _, rfl, rfl, by rw [hlv2]; rfl, H1, rfl, u1, by rw [rNum]; exact r1⟩
theorem number36_8 (h : RfAt q H ix s) (hq : ¬ q ix) : AC Try.prog 36 [.ptr ⟨0, ix, 0⟩, .int .i64 (8 : Nat)] ⟨H, S⟩ (fun v M' => v = .int .u64 ((rNum s 8).1 : Nat) ∧ ∃ H', M' = ⟨H', S⟩ ∧ UpdH (· = ix) H H' ∧ RfAt q H' ix (rNum s 8).2) := by
  refine AC_of_WE Try.func36 rfl ?_
  simp only [Try.ntmps36, List.length_cons, List.length_nil, List.replicate, List.cons_append, List.nil_append, mem_enter]
  (repeat refine W_seq ?_); refine W_regionT [] ?_
  simp only [go_sem]
  (repeat refine W_seq ?_); refine W_regionT [] ?_
  simp only [go_sem]
  refine AT_call rfl rfl (bytes84 h hq (by omega)) fun v M1 hd1 h1 => ?_
  obtain ⟨H1, rfl, u1, r1, b1, _⟩ := h1
  have hle := rTake_len (s := s) (n := 8)
  generalize hl : (rTake s 8).1 = l at b1 hle
  have hle1 : l.length ≤ 8 := hle.1
  have hlv2 : (rNum s 8).1 = ofLe l := by rw [rNum, hl]
  simp only [go_sem]
  (repeat refine W_seq ?_); refine W_regionT [] ?_
  simp only [go_sem]
  (repeat refine W_seq ?_); refine W_regionT [] ?_
  simp only [go_sem, b1.len, wrap_i64 (n := (l.length : Int) - 1) (by omega) (by omega)]
  (repeat refine W_seq ?_)
  refine W_block (W_loop (L_inv (fun j env M' => ∃ (x0 x1 x2 x3 x4 x8 x9 x10 x11 x12 x13 x14 x15 x16 x17 x18 x19 x20 x21 x22 x23 x24 x25 x26 : AV) (u : Unit), env = [x0, x1, x2, x3, x4, v, .int .u64 (ofLe (l.drop j) : Nat), .int .i64 ((j : Int) - 1), x8, x9, x10, x11, x12, x13, x14, x15, x16, x17, x18, x19, x20, x21, x22, x23, x24, x25, x26] ∧ j ≤ l.length ∧ M' = ⟨H1, [] :: S⟩) (fun j env M2 => ?_) (l.length) ?_))
  case refine_2 => exact ⟨_, _, _, _, _, _, _, _, _, _, _, _, _, _, _, _, _, _, _, _, _, _, _, _, (), by rw [List.drop_length]; rfl, Nat.le_refl _, rfl⟩
  refine exE fun x0 => exE fun x1 => exE fun x2 => exE fun x3 => exE fun x4 => exE fun x8 => exE fun x9 => exE fun x10 => exE fun x11 => exE fun x12 => exE fun x13 => exE fun x14 => exE fun x15 => exE fun x16 => exE fun x17 => exE fun x18 => exE fun x19 => exE fun x20 => exE fun x21 => exE fun x22 => exE fun x23 => exE fun x24 => exE fun x25 => exE fun x26 => ?_
  rintro ⟨_, rfl, hij, rfl⟩
  (repeat refine W_seq ?_); refine W_regionT [] ?_
  simp only [go_sem]
  (repeat refine W_seq ?_)
  refine W_cond_if rfl (fun hb => ?_) (fun hb => ?_)
  · have hi : 0 ≤ (j : Int) - 1 := by simpa using hb
    refine W_skip ?_
    simp only [go_sem]
    (repeat refine W_seq ?_)
    refine W_block ?_
    obtain ⟨m, rfl⟩ : ∃ m, j = m + 1 := ⟨j - 1, by omega⟩
    have hm : m < l.length := by omega
    obtain ⟨q1, a1, a2⟩ := b1.at (S := [] :: S) (kk := .i64) hm
    have hd := ofLe_drop hm
    have hbd : ofLe (l.drop m) < 18446744073709551616 := by
      have h1 := ofLe_lt (l.drop m)
      have h2 : 256 ^ (l.drop m).length ≤ 256 ^ 8 := Nat.pow_le_pow_right (by decide) (by simp; omega)
      have h3 : (256 : Nat) ^ 8 = 18446744073709551616 := by decide
      omega
    have hm1 : ((m + 1 : Nat) : Int) - 1 = (m : Int) := by omega
    have hc8 := l[m].toNat_lt
    have ew1 : IntKind.wrap .u64 (256 * ((ofLe (l.drop (m + 1)) : Nat) : Int)) = ((256 * ofLe (l.drop (m + 1)) : Nat) : Int) := by rw [wrap_u64]; omega
    have ew2 : IntKind.wrap .u64 ((l[m].toNat : Nat) : Int) = (l[m].toNat : Nat) := by rw [wrap_u64]; omega
    have ew3 : IntKind.wrap .u64 (((256 * ofLe (l.drop (m + 1)) : Nat) : Int) + ((l[m].toNat : Nat) : Int)) = ((ofLe (l.drop m) : Nat) : Int) := by rw [wrap_u64]; omega
    (repeat refine W_seq ?_); refine W_regionT [] ?_
    simp only [go_sem, hm1, a1, a2, ew1, ew2, ew3]
    (repeat refine W_seq ?_); refine W_regionT [] ?_
    simp only [go_sem, hm1, wrap_i64 (n := (m : Int) - 1) (by omega) (by omega)]
    exact ⟨m, by omega, _, _, _, _, _, _, _, _, _, _, _, _, _, _, _, _, _, _, _, _, _, _, _, _, (), rfl, by omega, trivial⟩
  · have hi : j = 0 := by simp at hb; omega
    subst hi
    rw [List.drop_zero]
    (repeat refine W_seq ?_)
    refine W_exit ?_
    simp only [go_sem]
    (repeat refine W_seq ?_); refine W_regionT [] ?_
    simp only [go_sem]
    exact W_ret ⟨.inr rfl, _, rfl, rfl, by rw [hlv2]; rfl, H1, rfl, u1, by rw [rNum]; exact r1⟩
theorem readText (h : RdAt q H ix s) (hq : ¬ q ix) : AC Try.prog 40 [.ptr ⟨0, ix, 0⟩] ⟨H, S⟩ (fun v M' => v = .str (rText s).1 ∧ ∃ H', M' = ⟨H', S⟩ ∧ UpdH (· = ix) H H' ∧ RdAt q H' ix (rText s).2) := by
  refine AC_of_WE Try.func40 rfl ?_
  simp only [Try.ntmps40, List.length_cons, List.length_nil, List.replicate, List.cons_append, List.nil_append, mem_enter]
  (repeat refine W_seq ?_); refine W_regionT [] ?_
  simp only [go_sem]
  (repeat refine W_seq ?_); refine W_regionT [] ?_
  simp only [go_sem]
  refine AT_call rfl rfl (num37 h hq) fun v M1 hd1 h1 => ?_
  obtain ⟨hv, H1, rfl, u1, r1⟩ := h1; subst hv
  have hlt := rNum_lt (s := s) (n := 2)
  simp only [go_sem, wrap_i64 (n := (((rNum s 2).1 : Nat) : Int)) (by omega) (by omega)]
  refine AT_call rfl rfl (take r1 hq (by omega)) fun v M1 hd1 h1 => ?_
  obtain ⟨H2, rfl, u2, r2, b2, _⟩ := h1
  simp only [go_sem, b2.text]
  exact W_ret ⟨.inr rfl, _, rfl, rfl, rfl, H2, rfl, u1.then u2 (fun _ _ h => h), r2⟩
theorem refText41 (h : RfAt q H ix s) (hq : ¬ q ix) : AC Try.prog 41 [.ptr ⟨0, ix, 0⟩] ⟨H, S⟩ (fun v M' => v = .str (rText s).1 ∧ ∃ H', M' = ⟨H', S⟩ ∧ UpdH (· = ix) H H' ∧ RfAt q H' ix (rText s).2) := by
  refine AC_of_WE Try.func41 rfl ?_
  simp only [Try.ntmps41, List.length_cons, List.length_nil, List.replicate, List.cons_append, List.nil_append, mem_enter]
  (repeat refine W_seq ?_); refine W_regionT [] ?_
  simp only [go_sem]
  (repeat refine W_seq ?_); refine W_regionT [] ?_
  simp only [go_sem]
  refine AT_call rfl rfl (number36_2 h hq) fun v M1 hd1 h1 => ?_
  obtain ⟨hv, H1, rfl, u1, r1⟩ := h1; subst hv
  have hlt := rNum_lt (s := s) (n := 2)
  simp only [go_sem, wrap_i64 (n := (((rNum s 2).1 : Nat) : Int)) (by omega) (by omega)]
  refine AT_call rfl rfl (bytes84 r1 hq (by omega)) fun v M1 hd1 h1 => ?_
  obtain ⟨H2, rfl, u2, r2, b2, _⟩ := h1
  simp only [go_sem, b2.text]
  exact W_ret ⟨.inr rfl, _, rfl, rfl, rfl, H2, rfl, u1.then u2 (fun _ _ h => h), r2⟩
theorem readData {most : Int} (h : RdAt q H ix s) (hq : ¬ q ix) : AC Try.prog 42 [.ptr ⟨0, ix, 0⟩, .int .i64 most] ⟨H, S⟩ (ReadB q H S ix (RdAt q) (rData s most)) := by
  refine AC_of_WE Try.func42 rfl ?_
  simp only [Try.ntmps42, List.length_cons, List.length_nil, List.replicate, List.cons_append, List.nil_append, mem_enter]
  (repeat refine W_seq ?_); refine W_regionT [] ?_
  simp only [go_sem]
  (repeat refine W_seq ?_); refine W_regionT [] ?_
  simp only [go_sem]
  refine AT_call rfl rfl (num38 h hq) fun v M1 hd1 h1 => ?_
  obtain ⟨hv, H1, rfl, u1, r1⟩ := h1; subst hv
  have hlt4 := rNum_lt (s := s) (n := 4)
  have r1' := r1
  obtain ⟨vb, hr, hb, hqv⟩ := r1'
  have hlt := (List.getElem?_eq_some_iff.1 hr).1
  have hnq : ∀ k, q k → ¬ k = ix := fun k hk e => hq (by rw [← e]; exact hk)
  simp only [go_sem, wrap_i64 (n := (((rNum s 4).1 : Nat) : Int)) (by omega) (by omega)]
  rcases (show ((rNum s 4).2.2 = 0 ∧ most < ((rNum s 4).1 : Int)) ∨ ((rNum s 4).2.2 = 0 ∧ ¬ most < ((rNum s 4).1 : Int)) ∨ (rNum s 4).2.2 ≠ 0 by omega) with hc | hc | hc
  · have hx1 := hc.1
    have hx2 := hc.2
    (repeat refine W_seq ?_); refine W_regionT [] ?_
    simp only [go_sem, rd_a1 hr, rd_l1 hr, hx1, hx2]
    (repeat refine W_seq ?_)
    refine W_cond (b := true) rfl ?_
    simp only [if_true]
    (repeat refine W_seq ?_); refine W_regionT [] ?_
    simp only [go_sem, rd_a1 hr, rd_l1 hr, rd_s1 hr]
    (repeat refine W_seq ?_); refine W_regionT [] ?_
    simp only [go_sem]
    refine AT_call rfl rfl (take (s := ((rNum s 4).2.1, 4)) (H := H1.set ix _) ⟨vb, set_row hlt, hb.upd UpdH.set (fun k hk => hnq k (hqv k hk)), hqv⟩ hq (by omega)) fun v M1 hd1 h1 => ?_
    obtain ⟨H2, rfl, u2, r2, b2, c2⟩ := h1
    simp only [go_sem]
    refine W_ret ⟨.inr rfl, _, rfl, RH.lev0 b2, H2, rfl, (u1.then UpdH.set (fun _ _ h => h)).then u2 (fun _ _ h => h), ?_⟩
    have hv : rData s most = rTake ((rNum s 4).2.1, 4) (rNum s 4).1 := if_pos ⟨hc.1, hc.2⟩
    rw [hv]
    exact ⟨r2, b2, c2⟩
  · have hx1 := hc.1
    have hx2 := hc.2
    (repeat refine W_seq ?_); refine W_regionT [] ?_
    simp only [go_sem, rd_a1 hr, rd_l1 hr, hx1, hx2]
    (repeat refine W_seq ?_)
    refine W_cond (b := false) rfl ?_
    simp only [Bool.false_eq_true, if_false]
    refine W_skip ?_
    simp only [go_sem]
    (repeat refine W_seq ?_); refine W_regionT [] ?_
    simp only [go_sem]
    refine AT_call rfl rfl (take r1 hq (by omega)) fun v M1 hd1 h1 => ?_
    obtain ⟨H2, rfl, u2, r2, b2, c2⟩ := h1
    simp only [go_sem]
    refine W_ret ⟨.inr rfl, _, rfl, RH.lev0 b2, H2, rfl, u1.then u2 (fun _ _ h => h), ?_⟩
    have hv : rData s most = rTake (rNum s 4).2 (rNum s 4).1 := if_neg (fun h => hc.2 h.2)
    rw [hv]
    exact ⟨r2, b2, c2⟩
  · have hx1 : ¬ (rNum s 4).2.2 = 0 := hc
    have hx2 := hx1
    (repeat refine W_seq ?_); refine W_regionT [] ?_
    simp only [go_sem, rd_a1 hr, rd_l1 hr, hx1, hx2]
    (repeat refine W_seq ?_)
    refine W_cond (b := false) rfl ?_
    simp only [Bool.false_eq_true, if_false]
    refine W_skip ?_
    simp only [go_sem]
    (repeat refine W_seq ?_); refine W_regionT [] ?_
    simp only [go_sem]
    refine AT_call rfl rfl (take r1 hq (by omega)) fun v M1 hd1 h1 => ?_
    obtain ⟨H2, rfl, u2, r2, b2, c2⟩ := h1
    simp only [go_sem]
    refine W_ret ⟨.inr rfl, _, rfl, RH.lev0 b2, H2, rfl, u1.then u2 (fun _ _ h => h), ?_⟩
    have hv : rData s most = rTake (rNum s 4).2 (rNum s 4).1 := if_neg (fun h => hc h.1)
    rw [hv]
    exact ⟨r2, b2, c2⟩
theorem refData43 {most : Int} (h : RfAt q H ix s) (hq : ¬ q ix) : AC Try.prog 43 [.ptr ⟨0, ix, 0⟩, .int .i64 most] ⟨H, S⟩ (ReadB q H S ix (RfAt q) (rData s most)) := by
  refine AC_of_WE Try.func43 rfl ?_
  simp only [Try.ntmps43, List.length_cons, List.length_nil, List.replicate, List.cons_append, List.nil_append, mem_enter]
  (repeat refine W_seq ?_); refine W_regionT [] ?_
  simp only [go_sem]
  (repeat refine W_seq ?_); refine W_regionT [] ?_
  simp only [go_sem]
  refine AT_call rfl rfl (number36_4 h hq) fun v M1 hd1 h1 => ?_
  obtain ⟨hv, H1, rfl, u1, r1⟩ := h1; subst hv
  have hlt4 := rNum_lt (s := s) (n := 4)
  have r1' := r1
  obtain ⟨vb, B, i, hr, hb, hi, hl, hB, hqv⟩ := r1'
  have hlt := (List.getElem?_eq_some_iff.1 hr).1
  have hnq : ∀ k, q k → ¬ k = ix := fun k hk e => hq (by rw [← e]; exact hk)
  simp only [go_sem, wrap_i64 (n := (((rNum s 4).1 : Nat) : Int)) (by omega) (by omega)]
  rcases (show ((rNum s 4).2.2 = 0 ∧ most < ((rNum s 4).1 : Int)) ∨ ((rNum s 4).2.2 = 0 ∧ ¬ most < ((rNum s 4).1 : Int)) ∨ (rNum s 4).2.2 ≠ 0 by omega) with hc | hc | hc
  · have hx1 := hc.1
    have hx2 := hc.2
    (repeat refine W_seq ?_); refine W_regionT [] ?_
    simp only [go_sem, rf_a2 hr, rf_l2 hr, hx1, hx2]
    (repeat refine W_seq ?_)
    refine W_cond (b := true) rfl ?_
    simp only [if_true]
    (repeat refine W_seq ?_); refine W_regionT [] ?_
    simp only [go_sem, rf_a2 hr, rf_l2 hr, rf_s2 hr]
    (repeat refine W_seq ?_); refine W_regionT [] ?_
    simp only [go_sem]
    refine AT_call rfl rfl (bytes84 (s := ((rNum s 4).2.1, 4)) (H := H1.set ix _) ⟨vb, B, i, set_row hlt, hb.upd UpdH.set (fun k hk => hnq k (hqv k hk)), hi, hl, hB, hqv⟩ hq (by omega)) fun v M1 hd1 h1 => ?_
    obtain ⟨H2, rfl, u2, r2, b2, c2⟩ := h1
    simp only [go_sem]
    refine W_ret ⟨.inr rfl, _, rfl, RH.lev0 b2, H2, rfl, (u1.then UpdH.set (fun _ _ h => h)).then u2 (fun _ _ h => h), ?_⟩
    have hv : rData s most = rTake ((rNum s 4).2.1, 4) (rNum s 4).1 := if_pos ⟨hc.1, hc.2⟩
    rw [hv]
    exact ⟨r2, b2, c2⟩
  · have hx1 := hc.1
    have hx2 := hc.2
    (repeat refine W_seq ?_); refine W_regionT [] ?_
    simp only [go_sem, rf_a2 hr, rf_l2 hr, hx1, hx2]
    (repeat refine W_seq ?_)
    refine W_cond (b := false) rfl ?_
    simp only [Bool.false_eq_true, if_false]
    refine W_skip ?_
    simp only [go_sem]
    (repeat refine W_seq ?_); refine W_regionT [] ?_
    simp only [go_sem]
    refine AT_call rfl rfl (bytes84 r1 hq (by omega)) fun v M1 hd1 h1 => ?_
    obtain ⟨H2, rfl, u2, r2, b2, c2⟩ := h1
    simp only [go_sem]
    refine W_ret ⟨.inr rfl, _, rfl, RH.lev0 b2, H2, rfl, u1.then u2 (fun _ _ h => h), ?_⟩
    have hv : rData s most = rTake (rNum s 4).2 (rNum s 4).1 := if_neg (fun h => hc.2 h.2)
    rw [hv]
    exact ⟨r2, b2, c2⟩
  · have hx1 : ¬ (rNum s 4).2.2 = 0 := hc
    have hx2 := hx1
    (repeat refine W_seq ?_); refine W_regionT [] ?_
    simp only [go_sem, rf_a2 hr, rf_l2 hr, hx1, hx2]
    (repeat refine W_seq ?_)
    refine W_cond (b := false) rfl ?_
    simp only [Bool.false_eq_true, if_false]
    refine W_skip ?_
    simp only [go_sem]
    (repeat refine W_seq ?_); refine W_regionT [] ?_
    simp only [go_sem]
    refine AT_call rfl rfl (bytes84 r1 hq (by omega)) fun v M1 hd1 h1 => ?_
    obtain ⟨H2, rfl, u2, r2, b2, c2⟩ := h1
    simp only [go_sem]
    refine W_ret ⟨.inr rfl, _, rfl, RH.lev0 b2, H2, rfl, u1.then u2 (fun _ _ h => h), ?_⟩
    have hv : rData s most = rTake (rNum s 4).2 (rNum s 4).1 := if_neg (fun h => hc h.1)
    rw [hv]
    exact ⟨r2, b2, c2⟩
theorem errno44 (h : RdAt q H ix s) : AC Try.prog 44 [.ptr ⟨0, ix, 0⟩] ⟨H, S⟩ (fun v M' => v = .int .i64 s.2 ∧ M' = ⟨H, S⟩) := by
  refine AC_of_WE Try.func44 rfl ?_
  simp only [Try.ntmps44, List.length_cons, List.length_nil, List.replicate, List.cons_append, List.nil_append, mem_enter]
  obtain ⟨vb, hr, hb, hqv⟩ := h
  (repeat refine W_seq ?_); refine W_regionT [] ?_
  simp only [go_sem]
  (repeat refine W_seq ?_); refine W_regionT [] ?_
  simp only [go_sem, rd_a1 hr, rd_l1 hr]
  exact W_ret ⟨.inr rfl, _, rfl, rfl, rfl, rfl⟩
theorem end45 (h : RdAt q H ix s) : AC Try.prog 45 [.ptr ⟨0, ix, 0⟩] ⟨H, S⟩ (fun v M' => v = .int .i64 (rEnd s) ∧ M' = ⟨H, S⟩) := by
  refine AC_of_WE Try.func45 rfl ?_
  simp only [Try.ntmps45, List.length_cons, List.length_nil, List.replicate, List.cons_append, List.nil_append, mem_enter]
  obtain ⟨l, e⟩ := s
  obtain ⟨vb, hr, hb, hqv⟩ := h
  simp only at hr hb
  (repeat refine W_seq ?_); refine W_regionT [] ?_
  simp only [go_sem]
  rcases (show (e = 0 ∧ (0 : Int) < (l.length : Int)) ∨ (e = 0 ∧ ¬ (0 : Int) < (l.length : Int)) ∨ e ≠ 0 by omega) with hc | hc | hc
  · have hx1 : decide (e = 0) = true := decide_eq_true hc.1
    have hx2 := hc.2
    (repeat refine W_seq ?_); refine W_regionT [] ?_
    simp only [go_sem, rd_a0 hr, rd_a1 hr, rd_l0 hr, rd_l1 hr, hb.len, hx1, hx2]
    (repeat refine W_seq ?_)
    refine W_cond (b := true) rfl ?_
    simp only [if_true]
    (repeat refine W_seq ?_); refine W_regionT [] ?_
    simp only [go_sem]
    exact W_ret ⟨.inr rfl, _, rfl, rfl, by rw [show rEnd (l, e) = 2 from if_pos ⟨hc.1, by simp only; omega⟩]; rfl, rfl⟩
  · have hx1 : decide (e = 0) = true := decide_eq_true hc.1
    have hx2 := hc.2
    (repeat refine W_seq ?_); refine W_regionT [] ?_
    simp only [go_sem, rd_a0 hr, rd_a1 hr, rd_l0 hr, rd_l1 hr, hb.len, hx1, hx2]
    (repeat refine W_seq ?_)
    refine W_cond (b := false) rfl ?_
    simp only [Bool.false_eq_true, if_false]
    refine W_skip ?_
    simp only [go_sem]
    (repeat refine W_seq ?_); refine W_regionT [] ?_
    simp only [go_sem, rd_a0 hr, rd_a1 hr, rd_l0 hr, rd_l1 hr, hb.len]
    exact W_ret ⟨.inr rfl, _, rfl, rfl, by rw [show rEnd (l, e) = e from if_neg (fun h => by have h2 := h.2; simp only at h2; omega)]; rfl, rfl⟩
  · have hx1 : decide (e = 0) = false := decide_eq_false hc
    have hx2 := hx1
    (repeat refine W_seq ?_); refine W_regionT [] ?_
    simp only [go_sem, rd_a0 hr, rd_a1 hr, rd_l0 hr, rd_l1 hr, hb.len, hx1, hx2]
    (repeat refine W_seq ?_)
    refine W_cond (b := false) rfl ?_
    simp only [Bool.false_eq_true, if_false]
    refine W_skip ?_
    simp only [go_sem]
    (repeat refine W_seq ?_); refine W_regionT [] ?_
    simp only [go_sem, rd_a0 hr, rd_a1 hr, rd_l0 hr, rd_l1 hr, hb.len]
    exact W_ret ⟨.inr rfl, _, rfl, rfl, by rw [show rEnd (l, e) = e from if_neg (fun h => hc h.1)]; rfl, rfl⟩
theorem end46 (h : RfAt q H ix s) : AC Try.prog 46 [.ptr ⟨0, ix, 0⟩] ⟨H, S⟩ (fun v M' => v = .int .i64 (rEnd s) ∧ M' = ⟨H, S⟩) := by
  refine AC_of_WE Try.func46 rfl ?_
  simp only [Try.ntmps46, List.length_cons, List.length_nil, List.replicate, List.cons_append, List.nil_append, mem_enter]
  obtain ⟨l, e⟩ := s
  obtain ⟨vb, B, i, hr, hb, hi, hl, hB, hqv⟩ := h
  simp only at hr hb hl
  have hll : l.length = B.length - i := by rw [hl]; simp
  (repeat refine W_seq ?_); refine W_regionT [] ?_
  simp only [go_sem]
  rcases (show (e = 0 ∧ (i : Int) < (B.length : Int)) ∨ (e = 0 ∧ ¬ (i : Int) < (B.length : Int)) ∨ e ≠ 0 by omega) with hc | hc | hc
  · have hx1 : decide (e = 0) = true := decide_eq_true hc.1
    have hx2 := hc.2
    (repeat refine W_seq ?_); refine W_regionC [] [] [0, 1, 2, 3, 4, 5, 6, 7, 8, 9, 10, 11, 12, 13, 14, 15, 16] [0, 1, 3, 7, 15, 31, 63, 127, 255, 511, 63, 1087, 3135, 7231, 15423, 32767, 65535] mixedM (by kernel_rfl) (by kernel_rfl) (by kernel_rfl) (by kernel_rfl) ?_
    simp only [listed, go_sem, rf_a0 hr, rf_a1 hr, rf_a2 hr, rf_l0 hr, rf_l1 hr, rf_l2 hr, hb.len, List.map_cons, List.map_nil, hx1, hx2]
    (repeat refine W_seq ?_)
    refine W_cond (b := true) rfl ?_
    simp only [if_true]
    (repeat refine W_seq ?_); refine W_regionT [] ?_
    simp only [go_sem]
    exact W_ret ⟨.inr rfl, _, rfl, rfl, by rw [show rEnd (l, e) = 2 from if_pos ⟨hc.1, by simp only; omega⟩]; rfl, rfl⟩
  · have hx1 : decide (e = 0) = true := decide_eq_true hc.1
    have hx2 := hc.2
    (repeat refine W_seq ?_); refine W_regionC [] [] [0, 1, 2, 3, 4, 5, 6, 7, 8, 9, 10, 11, 12, 13, 14, 15, 16] [0, 1, 3, 7, 15, 31, 63, 127, 255, 511, 63, 1087, 3135, 7231, 15423, 32767, 65535] mixedM (by kernel_rfl) (by kernel_rfl) (by kernel_rfl) (by kernel_rfl) ?_
    simp only [listed, go_sem, rf_a0 hr, rf_a1 hr, rf_a2 hr, rf_l0 hr, rf_l1 hr, rf_l2 hr, hb.len, List.map_cons, List.map_nil, hx1, hx2]
    (repeat refine W_seq ?_)
    refine W_cond (b := false) rfl ?_
    simp only [Bool.false_eq_true, if_false]
    refine W_skip ?_
    simp only [go_sem]
    (repeat refine W_seq ?_); refine W_regionT [] ?_
    simp only [go_sem, rf_a0 hr, rf_a1 hr, rf_a2 hr, rf_l0 hr, rf_l1 hr, rf_l2 hr, hb.len, List.map_cons, List.map_nil]
    exact W_ret ⟨.inr rfl, _, rfl, rfl, by rw [show rEnd (l, e) = e from if_neg (fun h => by have h2 := h.2; simp only at h2; omega)]; rfl, rfl⟩
  · have hx1 : decide (e = 0) = false := decide_eq_false hc
    have hx2 := hx1
    (repeat refine W_seq ?_); refine W_regionC [] [] [0, 1, 2, 3, 4, 5, 6, 7, 8, 9, 10, 11, 12, 13, 14, 15, 16] [0, 1, 3, 7, 15, 31, 63, 127, 255, 511, 63, 1087, 3135, 7231, 15423, 32767, 65535] mixedM (by kernel_rfl) (by kernel_rfl) (by kernel_rfl) (by kernel_rfl) ?_
    simp only [listed, go_sem, rf_a0 hr, rf_a1 hr, rf_a2 hr, rf_l0 hr, rf_l1 hr, rf_l2 hr, hb.len, List.map_cons, List.map_nil, hx1, hx2]
    (repeat refine W_seq ?_)
    refine W_cond (b := false) rfl ?_
    simp only [Bool.false_eq_true, if_false]
    refine W_skip ?_
    simp only [go_sem]
    (repeat refine W_seq ?_); refine W_regionT [] ?_
    simp only [go_sem, rf_a0 hr, rf_a1 hr, rf_a2 hr, rf_l0 hr, rf_l1 hr, rf_l2 hr, hb.len, List.map_cons, List.map_nil]
    exact W_ret ⟨.inr rfl, _, rfl, rfl, by rw [show rEnd (l, e) = e from if_neg (fun h => hc h.1)]; rfl, rfl⟩
theorem read33 {vb : AV} {l : List UInt8} (hb : BH H vb l) (hl : l.length < 1000000) : AC Try.prog 33 [vb] ⟨H, S⟩ (fun v M' => ∃ ix H', v = .ptr ⟨0, ix, 0⟩ ∧ M' = ⟨H', S⟩ ∧ UpdH no H H' ∧ H.length ≤ ix ∧ RdAt (fun k => H.length ≤ k ∧ k < H'.length ∧ k ≠ ix) H' ix (l, 0)) := by
  refine AC_of_WE Try.func33 rfl ?_
  simp only [Try.ntmps33, List.length_cons, List.length_nil, List.replicate, List.cons_append, List.nil_append, mem_enter]
  (repeat refine W_seq ?_); refine W_regionT [] ?_
  simp only [go_sem]
  (repeat refine W_seq ?_); refine W_regionT [6] ?_
  simp only [go_sem]
  refine AT_call rfl rfl (give (clone (hb.rb (S := [] :: S)) hl)) fun v M1 hd1 h1 => ?_
  obtain ⟨H1, rfl, u1, b1, c1⟩ := h1
  have e1 : buildA Try.prog 115 [(0, v)] = some (.agg [v, .int .i64 0]) := by
    obtain ⟨hst, hcs⟩ := b1.one
    unfold buildA; simp only [ti115]
    rcases b1 with ⟨rfl, _⟩ | ⟨i0, o0, c0, r0, rfl, _⟩ <;> rfl
  have e2 := box_agg (hp := true) (vs := [v, .int .i64 0]) (M := ⟨H1, [] :: S⟩) ti115 (by simp [b1.one.1]; rfl) rfl (by decide)
  simp only [go_sem, e1, e2]
  refine W_ret ⟨.inr rfl, _, rfl, rfl, _, _, rfl, rfl, u1.then (UpdH.push (p := no)) (fun _ _ h => h), u1.l, v, by simp, b1.new UpdH.push, fun k hk => ⟨c1 k hk, by have := RH.lt b1 hk; simp; omega, fun e => ?_⟩⟩
  have := RH.lt b1 hk; omega
end
end Go.Proofs.Ytlpcbfndjffpfaa
