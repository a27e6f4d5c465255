/- The walk through the functions that lay numbers, texts and data as bytes. -/
import Derived.Test.YtlpcbfndjffpfaaTy
import Derived.Test.YtlpcbfndjffpfaaAbs21
set_option maxRecDepth 100000
set_option linter.unusedSimpArgs false
set_option linter.unusedVariables false
namespace Go.Proofs.Ytlpcbfndjffpfaa
open Go.Abs
theorem bt22 : ByteTy Try.prog 22 5 := .of ti22 ti5
theorem st9 : StrTy Try.prog 9 := .of ti9
theorem few {M : Mem} {b : AV} {l : List UInt8} {n : Nat} (h : RB M b l) (hn : n < 10000) : AC Try.prog 20 [b, .int .i64 n] M (Gives M 5 (l.take n)) := by
  refine AC_of_W Try.func20 rfl rfl ?_
  have h' := h.enter
  simp only [Try.ntmps20, List.length_cons, List.length_nil, List.replicate, List.cons_append, List.nil_append]
  (repeat refine W_seq ?_); refine W_regionT [] ?_
  simp only [go_sem]
  (repeat refine W_seq ?_); refine W_regionT [] ?_
  simp only [go_sem]
  (repeat refine W_seq ?_); refine W_regionT [13] ?_
  simp only [go_sem, h'.len bt22]
  obtain ⟨v1, e1, r1⟩ := h'.slice bt22 (lo := none) (hi := some (AV.int IntKind.i64 (if (n : Int) < l.length then (n : Int) else (l.length : Int)))) (a := 0) (b := min n l.length) rfl (by simp [onat, natOf]; split <;> (constructor <;> omega)) (Nat.zero_le _) (Nat.min_le_right _ _)
  simp only [go_sem, e1]
  obtain ⟨v2, M2, e2, o2, s2⟩ := OB.append (by rw [enter_depth]; omega) (Nat.le_refl _) bt22 bt22 OB.nil r1 (by simp; omega)
  rw [e2]
  simp only [go_sem]
  refine W_ret ⟨.inr rfl, o2.lev0, ?_, ?_⟩
  · exact Step.leave s2
  · have hd := s2.d
    rw [enter_depth] at hd
    have e : List.drop 0 (List.take (min n l.length) l) = l.take n := by simp [List.take_eq_take_iff]
    rw [List.nil_append, e] at o2
    exact o2.leave hd
theorem clone {M : Mem} {b : AV} {l : List UInt8} (h : RB M b l) (hn : l.length < 1000000) : AC Try.prog 82 [b] M (Gives M 5 l) := by
  refine AC_of_W Try.func82 rfl rfl ?_
  have h' := h.enter
  have h0 : 0 < M.enter.depth := by rw [enter_depth]; omega
  simp only [Try.ntmps82, List.length_cons, List.length_nil, List.replicate, List.cons_append, List.nil_append]
  (repeat refine W_seq ?_); refine W_regionT [] ?_
  simp only [go_sem]
  (repeat refine W_seq ?_); refine W_regionT [] ?_
  simp only [go_sem, nil_eql h ti22 rfl]
  refine W_cond_if rfl (fun hb => ?_) (fun hb => ?_)
  · (repeat refine W_seq ?_); refine W_regionT [] ?_
    simp only [go_sem]
    have hv := h.of_isNil hb
    exact W_ret ⟨.inr rfl, rfl, Step.leave (Step.refl _ _), .inl ⟨rfl, hv.2⟩⟩
  · refine W_skip ?_
    simp only [go_sem]
    (repeat refine W_seq ?_); refine W_regionT [5, 7] ?_
    simp only [go_sem]
    obtain ⟨v1, M1, e1, o1, s1⟩ := empty_slice h0 bt22
    rw [e1]
    simp only [go_sem]
    obtain ⟨v2, M2, e2, o2, s2⟩ := OB.append (depth_pos s1 enter_depth) (k := M.heap.length) s1.h bt22 bt22 o1 (h'.step s1) (by simp; omega)
    rw [e2]
    simp only [go_sem]
    have s := s1.trans s2
    exact W_ret ⟨.inr rfl, o2.lev0, Step.leave s, o2.leave (s.d.trans enter_depth)⟩
theorem shift_val (n : Nat) (i : Nat) (hi : i ≤ 8) : IntKind.wrap .u8 (Int.fdiv (n : Int) (2 ^ (min ((8 * i : Nat) : Int).toNat 64))) = ((n / 256 ^ i % 256 : Nat) : Int) := by
  rw [wrap_u8]
  have e1 : min ((8 * i : Nat) : Int).toNat 64 = 8 * i := by omega
  rw [e1]
  have e2 : (2 : Int) ^ (8 * i) = ((256 ^ i : Nat) : Int) := by
    rw [Int.pow_mul]; simp
  rw [e2, Int.fdiv_eq_ediv_of_nonneg _ (Int.natCast_nonneg _)]
  rfl
theorem put78 {M : Mem} {b : AV} {l : List UInt8} {n size : Nat} (h : RB M b l) (hl : l.length < 1000000) (hs : size ≤ 8) (hn : n < 256) : AC Try.prog 78 [b, .int .u8 n, .int .i64 size] M (Gives M 5 (l ++ le n size)) := by
  refine AC_of_W Try.func78 rfl rfl ?_
  have h' := h.enter
  have h0 : 0 < M.enter.depth := by rw [enter_depth]; omega
  simp only [Try.ntmps78, List.length_cons, List.length_nil, List.replicate, List.cons_append, List.nil_append]
  (repeat refine W_seq ?_); refine W_regionT [] ?_
  simp only [go_sem]
  (repeat refine W_seq ?_); refine W_regionT [] ?_
  simp only [go_sem]
  refine AT_call rfl rfl (clone h' hl) fun v1 M1 hd1 ⟨s1, o1⟩ => ?_
  simp only [go_sem]
  (repeat refine W_seq ?_); refine W_regionT [] ?_
  simp only [go_sem]
  (repeat refine W_seq ?_)
  refine W_block (W_loop (L_inv (fun j env M' => ∃ (acc x8 x13 x14 x15 x16 x17 x18 x19 x20 x21 x22 x23 x24 : AV) (i : Nat), env = [b, .int .u8 n, .int .i64 size, .tup [], .tup [], .tup [], .nilsl, acc, x8, b, v1, .int .i64 size, .int .i64 i, x13, x14, x15, x16, x17, x18, x19, x20, x21, x22, x23, x24, .tup []] ∧ i + j = size ∧ OB M.heap.length M' acc 5 (l ++ le n i) ∧ Step M.heap.length M.enter M') (fun j env M2 => ?_) size ?_))
  · rintro ⟨acc, x8, x13, x14, x15, x16, x17, x18, x19, x20, x21, x22, x23, x24, i, rfl, hij, o2, s2⟩
    (repeat refine W_seq ?_); refine W_regionT [] ?_
    simp only [go_sem]
    (repeat refine W_seq ?_)
    refine W_cond_if rfl (fun hb => ?_) (fun hb => ?_)
    · have hi : i < size := by simpa using hb
      refine W_skip ?_
      simp only [go_sem]
      (repeat refine W_seq ?_)
      refine W_block ?_
      (repeat refine W_seq ?_); refine W_regionT [] ?_
      simp only [go_sem]
      refine W_regionT [22, 23] ?_
      simp only [go_sem, ti5, ti23, show (8 : Int) * (i : Int) = ((8 * i : Nat) : Int) from rfl, wrap_i64 (n := ((8 * i : Nat) : Int)) (by omega) (by omega), bin_shr (show (0 : Int) ≤ ((8 * i : Nat) : Int) by omega), show IntKind.wrap .u64 (n : Int) = n by rw [wrap_u64]; omega, shift_val n i (by omega)]
      have hd2 : 0 < M2.depth := depth_pos s2 enter_depth
      have hk2 : M.heap.length ≤ M2.heap.length := s2.h
      obtain ⟨v3, M3, e3, o3, s3⟩ := one_byte (P := Try.prog) (t := 22) (e := 5) (n := n / 256 ^ i % 256) hd2 bt22 (by omega)
      rw [e3]
      simp only [go_sem]
      obtain ⟨v4, M4, e4, o4, s4⟩ := OB.append (k := M.heap.length) (depth_pos (s2.trans (s3.mono hk2)) enter_depth) (s2.trans (s3.mono hk2)).h bt22 bt22 (o2.step s3) o3.rb (by simp [le_length]; omega)
      rw [e4]
      simp only [go_sem]
      refine W_regionT [] ?_
      simp only [go_sem, show (i : Int) + 1 = ((i + 1 : Nat) : Int) from rfl, wrap_i64 (n := ((i + 1 : Nat) : Int)) (by omega) (by omega)]
      refine ⟨j - 1, by omega, v4, _, _, _, _, _, _, _, _, _, _, _, _, _, i + 1, rfl, by omega, ?_, (s2.trans (s3.mono hk2)).trans s4⟩
      rw [le_succ, ← List.append_assoc]
      simpa using o4
    · have hi : i = size := by simp at hb; omega
      refine W_exit ?_
      simp only [go_sem]
      (repeat refine W_seq ?_); refine W_regionT [] ?_
      simp only [go_sem]
      subst hi
      exact W_ret ⟨.inr rfl, o2.lev0, Step.leave s2, o2.leave (s2.d.trans enter_depth)⟩
  · exact ⟨v1, _, _, _, _, _, _, _, _, _, _, _, _, _, 0, rfl, by omega, by simp only [le, List.append_nil]; exact o1, s1⟩
theorem put79 {M : Mem} {b : AV} {l : List UInt8} {n size : Nat} (h : RB M b l) (hl : l.length < 1000000) (hs : size ≤ 8) (hn : n < 65536) : AC Try.prog 79 [b, .int .u16 n, .int .i64 size] M (Gives M 5 (l ++ le n size)) := by
  refine AC_of_W Try.func79 rfl rfl ?_
  have h' := h.enter
  have h0 : 0 < M.enter.depth := by rw [enter_depth]; omega
  simp only [Try.ntmps79, List.length_cons, List.length_nil, List.replicate, List.cons_append, List.nil_append]
  (repeat refine W_seq ?_); refine W_regionT [] ?_
  simp only [go_sem]
  (repeat refine W_seq ?_); refine W_regionT [] ?_
  simp only [go_sem]
  refine AT_call rfl rfl (clone h' hl) fun v1 M1 hd1 ⟨s1, o1⟩ => ?_
  simp only [go_sem]
  (repeat refine W_seq ?_); refine W_regionT [] ?_
  simp only [go_sem]
  (repeat refine W_seq ?_)
  refine W_block (W_loop (L_inv (fun j env M' => ∃ (acc x8 x13 x14 x15 x16 x17 x18 x19 x20 x21 x22 x23 x24 : AV) (i : Nat), env = [b, .int .u16 n, .int .i64 size, .tup [], .tup [], .tup [], .nilsl, acc, x8, b, v1, .int .i64 size, .int .i64 i, x13, x14, x15, x16, x17, x18, x19, x20, x21, x22, x23, x24, .tup []] ∧ i + j = size ∧ OB M.heap.length M' acc 5 (l ++ le n i) ∧ Step M.heap.length M.enter M') (fun j env M2 => ?_) size ?_))
  · rintro ⟨acc, x8, x13, x14, x15, x16, x17, x18, x19, x20, x21, x22, x23, x24, i, rfl, hij, o2, s2⟩
    (repeat refine W_seq ?_); refine W_regionT [] ?_
    simp only [go_sem]
    (repeat refine W_seq ?_)
    refine W_cond_if rfl (fun hb => ?_) (fun hb => ?_)
    · have hi : i < size := by simpa using hb
      refine W_skip ?_
      simp only [go_sem]
      (repeat refine W_seq ?_)
      refine W_block ?_
      (repeat refine W_seq ?_); refine W_regionT [] ?_
      simp only [go_sem]
      refine W_regionT [22, 23] ?_
      simp only [go_sem, ti24, ti5, ti23, show (8 : Int) * (i : Int) = ((8 * i : Nat) : Int) from rfl, wrap_i64 (n := ((8 * i : Nat) : Int)) (by omega) (by omega), bin_shr (show (0 : Int) ≤ ((8 * i : Nat) : Int) by omega), show IntKind.wrap .u64 (n : Int) = n by rw [wrap_u64]; omega, shift_val n i (by omega)]
      have hd2 : 0 < M2.depth := depth_pos s2 enter_depth
      have hk2 : M.heap.length ≤ M2.heap.length := s2.h
      obtain ⟨v3, M3, e3, o3, s3⟩ := one_byte (P := Try.prog) (t := 22) (e := 5) (n := n / 256 ^ i % 256) hd2 bt22 (by omega)
      rw [e3]
      simp only [go_sem]
      obtain ⟨v4, M4, e4, o4, s4⟩ := OB.append (k := M.heap.length) (depth_pos (s2.trans (s3.mono hk2)) enter_depth) (s2.trans (s3.mono hk2)).h bt22 bt22 (o2.step s3) o3.rb (by simp [le_length]; omega)
      rw [e4]
      simp only [go_sem]
      refine W_regionT [] ?_
      simp only [go_sem, show (i : Int) + 1 = ((i + 1 : Nat) : Int) from rfl, wrap_i64 (n := ((i + 1 : Nat) : Int)) (by omega) (by omega)]
      refine ⟨j - 1, by omega, v4, _, _, _, _, _, _, _, _, _, _, _, _, _, i + 1, rfl, by omega, ?_, (s2.trans (s3.mono hk2)).trans s4⟩
      rw [le_succ, ← List.append_assoc]
      simpa using o4
    · have hi : i = size := by simp at hb; omega
      refine W_exit ?_
      simp only [go_sem]
      (repeat refine W_seq ?_); refine W_regionT [] ?_
      simp only [go_sem]
      subst hi
      exact W_ret ⟨.inr rfl, o2.lev0, Step.leave s2, o2.leave (s2.d.trans enter_depth)⟩
  · exact ⟨v1, _, _, _, _, _, _, _, _, _, _, _, _, _, 0, rfl, by omega, by simp only [le, List.append_nil]; exact o1, s1⟩
theorem put80 {M : Mem} {b : AV} {l : List UInt8} {n size : Nat} (h : RB M b l) (hl : l.length < 1000000) (hs : size ≤ 8) (hn : n < 4294967296) : AC Try.prog 80 [b, .int .u32 n, .int .i64 size] M (Gives M 5 (l ++ le n size)) := by
  refine AC_of_W Try.func80 rfl rfl ?_
  have h' := h.enter
  have h0 : 0 < M.enter.depth := by rw [enter_depth]; omega
  simp only [Try.ntmps80, List.length_cons, List.length_nil, List.replicate, List.cons_append, List.nil_append]
  (repeat refine W_seq ?_); refine W_regionT [] ?_
  simp only [go_sem]
  (repeat refine W_seq ?_); refine W_regionT [] ?_
  simp only [go_sem]
  refine AT_call rfl rfl (clone h' hl) fun v1 M1 hd1 ⟨s1, o1⟩ => ?_
  simp only [go_sem]
  (repeat refine W_seq ?_); refine W_regionT [] ?_
  simp only [go_sem]
  (repeat refine W_seq ?_)
  refine W_block (W_loop (L_inv (fun j env M' => ∃ (acc x8 x13 x14 x15 x16 x17 x18 x19 x20 x21 x22 x23 x24 : AV) (i : Nat), env = [b, .int .u32 n, .int .i64 size, .tup [], .tup [], .tup [], .nilsl, acc, x8, b, v1, .int .i64 size, .int .i64 i, x13, x14, x15, x16, x17, x18, x19, x20, x21, x22, x23, x24, .tup []] ∧ i + j = size ∧ OB M.heap.length M' acc 5 (l ++ le n i) ∧ Step M.heap.length M.enter M') (fun j env M2 => ?_) size ?_))
  · rintro ⟨acc, x8, x13, x14, x15, x16, x17, x18, x19, x20, x21, x22, x23, x24, i, rfl, hij, o2, s2⟩
    (repeat refine W_seq ?_); refine W_regionT [] ?_
    simp only [go_sem]
    (repeat refine W_seq ?_)
    refine W_cond_if rfl (fun hb => ?_) (fun hb => ?_)
    · have hi : i < size := by simpa using hb
      refine W_skip ?_
      simp only [go_sem]
      (repeat refine W_seq ?_)
      refine W_block ?_
      (repeat refine W_seq ?_); refine W_regionT [] ?_
      simp only [go_sem]
      refine W_regionT [22, 23] ?_
      simp only [go_sem, ti29, ti5, ti23, show (8 : Int) * (i : Int) = ((8 * i : Nat) : Int) from rfl, wrap_i64 (n := ((8 * i : Nat) : Int)) (by omega) (by omega), bin_shr (show (0 : Int) ≤ ((8 * i : Nat) : Int) by omega), show IntKind.wrap .u64 (n : Int) = n by rw [wrap_u64]; omega, shift_val n i (by omega)]
      have hd2 : 0 < M2.depth := depth_pos s2 enter_depth
      have hk2 : M.heap.length ≤ M2.heap.length := s2.h
      obtain ⟨v3, M3, e3, o3, s3⟩ := one_byte (P := Try.prog) (t := 22) (e := 5) (n := n / 256 ^ i % 256) hd2 bt22 (by omega)
      rw [e3]
      simp only [go_sem]
      obtain ⟨v4, M4, e4, o4, s4⟩ := OB.append (k := M.heap.length) (depth_pos (s2.trans (s3.mono hk2)) enter_depth) (s2.trans (s3.mono hk2)).h bt22 bt22 (o2.step s3) o3.rb (by simp [le_length]; omega)
      rw [e4]
      simp only [go_sem]
      refine W_regionT [] ?_
      simp only [go_sem, show (i : Int) + 1 = ((i + 1 : Nat) : Int) from rfl, wrap_i64 (n := ((i + 1 : Nat) : Int)) (by omega) (by omega)]
      refine ⟨j - 1, by omega, v4, _, _, _, _, _, _, _, _, _, _, _, _, _, i + 1, rfl, by omega, ?_, (s2.trans (s3.mono hk2)).trans s4⟩
      rw [le_succ, ← List.append_assoc]
      simpa using o4
    · have hi : i = size := by simp at hb; omega
      refine W_exit ?_
      simp only [go_sem]
      (repeat refine W_seq ?_); refine W_regionT [] ?_
      simp only [go_sem]
      subst hi
      exact W_ret ⟨.inr rfl, o2.lev0, Step.leave s2, o2.leave (s2.d.trans enter_depth)⟩
  · exact ⟨v1, _, _, _, _, _, _, _, _, _, _, _, _, _, 0, rfl, by omega, by simp only [le, List.append_nil]; exact o1, s1⟩
theorem put81 {M : Mem} {b : AV} {l : List UInt8} {n size : Nat} (h : RB M b l) (hl : l.length < 1000000) (hs : size ≤ 8) (hn : n < 18446744073709551616) : AC Try.prog 81 [b, .int .u64 n, .int .i64 size] M (Gives M 5 (l ++ le n size)) := by
  refine AC_of_W Try.func81 rfl rfl ?_
  have h' := h.enter
  have h0 : 0 < M.enter.depth := by rw [enter_depth]; omega
  simp only [Try.ntmps81, List.length_cons, List.length_nil, List.replicate, List.cons_append, List.nil_append]
  (repeat refine W_seq ?_); refine W_regionT [] ?_
  simp only [go_sem]
  (repeat refine W_seq ?_); refine W_regionT [] ?_
  simp only [go_sem]
  refine AT_call rfl rfl (clone h' hl) fun v1 M1 hd1 ⟨s1, o1⟩ => ?_
  simp only [go_sem]
  (repeat refine W_seq ?_); refine W_regionT [] ?_
  simp only [go_sem]
  (repeat refine W_seq ?_)
  refine W_block (W_loop (L_inv (fun j env M' => ∃ (acc x8 x13 x14 x15 x16 x17 x18 x19 x20 x21 x22 x23 : AV) (i : Nat), env = [b, .int .u64 n, .int .i64 size, .tup [], .tup [], .tup [], .nilsl, acc, x8, b, v1, .int .i64 size, .int .i64 i, x13, x14, x15, x16, x17, x18, x19, x20, x21, x22, x23, .tup []] ∧ i + j = size ∧ OB M.heap.length M' acc 5 (l ++ le n i) ∧ Step M.heap.length M.enter M') (fun j env M2 => ?_) size ?_))
  · rintro ⟨acc, x8, x13, x14, x15, x16, x17, x18, x19, x20, x21, x22, x23, i, rfl, hij, o2, s2⟩
    (repeat refine W_seq ?_); refine W_regionT [] ?_
    simp only [go_sem]
    (repeat refine W_seq ?_)
    refine W_cond_if rfl (fun hb => ?_) (fun hb => ?_)
    · have hi : i < size := by simpa using hb
      refine W_skip ?_
      simp only [go_sem]
      (repeat refine W_seq ?_)
      refine W_block ?_
      (repeat refine W_seq ?_); refine W_regionT [] ?_
      simp only [go_sem]
      refine W_regionT [21, 22] ?_
      simp only [go_sem, ti5, ti23, show (8 : Int) * (i : Int) = ((8 * i : Nat) : Int) from rfl, wrap_i64 (n := ((8 * i : Nat) : Int)) (by omega) (by omega), bin_shr (show (0 : Int) ≤ ((8 * i : Nat) : Int) by omega), shift_val n i (by omega)]
      have hd2 : 0 < M2.depth := depth_pos s2 enter_depth
      have hk2 : M.heap.length ≤ M2.heap.length := s2.h
      obtain ⟨v3, M3, e3, o3, s3⟩ := one_byte (P := Try.prog) (t := 22) (e := 5) (n := n / 256 ^ i % 256) hd2 bt22 (by omega)
      rw [e3]
      simp only [go_sem]
      obtain ⟨v4, M4, e4, o4, s4⟩ := OB.append (k := M.heap.length) (depth_pos (s2.trans (s3.mono hk2)) enter_depth) (s2.trans (s3.mono hk2)).h bt22 bt22 (o2.step s3) o3.rb (by simp [le_length]; omega)
      rw [e4]
      simp only [go_sem]
      refine W_regionT [] ?_
      simp only [go_sem, show (i : Int) + 1 = ((i + 1 : Nat) : Int) from rfl, wrap_i64 (n := ((i + 1 : Nat) : Int)) (by omega) (by omega)]
      refine ⟨j - 1, by omega, v4, _, _, _, _, _, _, _, _, _, _, _, _, i + 1, rfl, by omega, ?_, (s2.trans (s3.mono hk2)).trans s4⟩
      rw [le_succ, ← List.append_assoc]
      simpa using o4
    · have hi : i = size := by simp at hb; omega
      refine W_exit ?_
      simp only [go_sem]
      (repeat refine W_seq ?_); refine W_regionT [] ?_
      simp only [go_sem]
      subst hi
      exact W_ret ⟨.inr rfl, o2.lev0, Step.leave s2, o2.leave (s2.d.trans enter_depth)⟩
  · exact ⟨v1, _, _, _, _, _, _, _, _, _, _, _, _, 0, rfl, by omega, by simp only [le, List.append_nil]; exact o1, s1⟩
theorem u21 {M : Mem} {b : AV} {l : List UInt8} {n : Nat} (h : RB M b l) (hl : l.length < 1000000) (hn : n < 256) : AC Try.prog 21 [b, .int .u8 n] M (Gives M 5 (l ++ le n 1)) := by
  refine AC_of_W Try.func21 rfl rfl ?_
  have h' := h.enter
  simp only [Try.ntmps21, List.length_cons, List.length_nil, List.replicate, List.cons_append, List.nil_append]
  (repeat refine W_seq ?_); refine W_regionT [] ?_
  simp only [go_sem]
  (repeat refine W_seq ?_); refine W_regionT [] ?_
  simp only [go_sem]
  refine AT_call rfl rfl (put78 (size := 1) h' hl (by omega) hn) fun v1 M1 hd1 ⟨s1, o1⟩ => ?_
  simp only [go_sem]
  exact W_ret ⟨.inr rfl, o1.lev0, Step.leave s1, o1.leave (s1.d.trans enter_depth)⟩
theorem u22 {M : Mem} {b : AV} {l : List UInt8} {n : Nat} (h : RB M b l) (hl : l.length < 1000000) (hn : n < 65536) : AC Try.prog 22 [b, .int .u16 n] M (Gives M 5 (l ++ le n 2)) := by
  refine AC_of_W Try.func22 rfl rfl ?_
  have h' := h.enter
  simp only [Try.ntmps22, List.length_cons, List.length_nil, List.replicate, List.cons_append, List.nil_append]
  (repeat refine W_seq ?_); refine W_regionT [] ?_
  simp only [go_sem]
  (repeat refine W_seq ?_); refine W_regionT [] ?_
  simp only [go_sem]
  refine AT_call rfl rfl (put79 (size := 2) h' hl (by omega) hn) fun v1 M1 hd1 ⟨s1, o1⟩ => ?_
  simp only [go_sem]
  exact W_ret ⟨.inr rfl, o1.lev0, Step.leave s1, o1.leave (s1.d.trans enter_depth)⟩
theorem u23 {M : Mem} {b : AV} {l : List UInt8} {n : Nat} (h : RB M b l) (hl : l.length < 1000000) (hn : n < 4294967296) : AC Try.prog 23 [b, .int .u32 n] M (Gives M 5 (l ++ le n 4)) := by
  refine AC_of_W Try.func23 rfl rfl ?_
  have h' := h.enter
  simp only [Try.ntmps23, List.length_cons, List.length_nil, List.replicate, List.cons_append, List.nil_append]
  (repeat refine W_seq ?_); refine W_regionT [] ?_
  simp only [go_sem]
  (repeat refine W_seq ?_); refine W_regionT [] ?_
  simp only [go_sem]
  refine AT_call rfl rfl (put80 (size := 4) h' hl (by omega) hn) fun v1 M1 hd1 ⟨s1, o1⟩ => ?_
  simp only [go_sem]
  exact W_ret ⟨.inr rfl, o1.lev0, Step.leave s1, o1.leave (s1.d.trans enter_depth)⟩
theorem u24 {M : Mem} {b : AV} {l : List UInt8} {n : Nat} (h : RB M b l) (hl : l.length < 1000000) (hn : n < 18446744073709551616) : AC Try.prog 24 [b, .int .u64 n] M (Gives M 5 (l ++ le n 8)) := by
  refine AC_of_W Try.func24 rfl rfl ?_
  have h' := h.enter
  simp only [Try.ntmps24, List.length_cons, List.length_nil, List.replicate, List.cons_append, List.nil_append]
  (repeat refine W_seq ?_); refine W_regionT [] ?_
  simp only [go_sem]
  (repeat refine W_seq ?_); refine W_regionT [] ?_
  simp only [go_sem]
  refine AT_call rfl rfl (put81 (size := 8) h' hl (by omega) hn) fun v1 M1 hd1 ⟨s1, o1⟩ => ?_
  simp only [go_sem]
  exact W_ret ⟨.inr rfl, o1.lev0, Step.leave s1, o1.leave (s1.d.trans enter_depth)⟩
theorem number {M : Mem} {n size : Nat} (hn : n < 18446744073709551616) (hs : size ≤ 8) : AC Try.prog 27 [.int .u64 n, .int .i64 size] M (Gives M 5 (le n size)) := by
  refine AC_of_W Try.func27 rfl rfl ?_
  have h0 : 0 < M.enter.depth := by rw [enter_depth]; omega
  simp only [Try.ntmps27, List.length_cons, List.length_nil, List.replicate, List.cons_append, List.nil_append]
  (repeat refine W_seq ?_); refine W_regionT [] ?_
  simp only [go_sem]
  (repeat refine W_seq ?_); refine W_regionT [] ?_
  simp only [go_sem]
  (repeat refine W_seq ?_); refine W_regionT [] ?_
  simp only [go_sem]
  (repeat refine W_seq ?_)
  refine W_block (W_loop (L_inv (fun j env M' => ∃ (acc x7 x8 x9 x10 x11 x12 x13 x14 x15 x16 x17 x18 x19 : AV) (i m : Nat), env = [.int .u64 m, .int .i64 size, .tup [], .tup [], .nilsl, acc, .int .i64 i, x7, x8, x9, x10, x11, x12, x13, x14, x15, x16, x17, x18, x19, .tup []] ∧ i + j = size ∧ m = n / 256 ^ i ∧ OB M.heap.length M' acc 5 (le n i) ∧ Step M.heap.length M.enter M') (fun j env M2 => ?_) size ?_))
  · rintro ⟨acc, x7, x8, x9, x10, x11, x12, x13, x14, x15, x16, x17, x18, x19, i, m, rfl, hij, hm, o2, s2⟩
    have hm2 : m < 18446744073709551616 := by rw [hm]; exact Nat.lt_of_le_of_lt (Nat.div_le_self _ _) hn
    (repeat refine W_seq ?_); refine W_regionT [] ?_
    simp only [go_sem]
    (repeat refine W_seq ?_)
    refine W_cond_if rfl (fun hb => ?_) (fun hb => ?_)
    · have hi : i < size := by simpa using hb
      refine W_skip ?_
      simp only [go_sem]
      (repeat refine W_seq ?_)
      refine W_block ?_
      (repeat refine W_seq ?_); refine W_regionT [16, 17] ?_
      simp only [go_sem, bin_rem (show (256 : Int) ≠ 0 by decide), ti23, ti5, show Int.tmod (m : Int) 256 = ((m % 256 : Nat) : Int) from rfl, show IntKind.wrap .u8 ((m % 256 : Nat) : Int) = ((m % 256 : Nat) : Int) by rw [wrap_u8]; omega]
      have hd2 : 0 < M2.depth := depth_pos s2 enter_depth
      have hk2 : M.heap.length ≤ M2.heap.length := s2.h
      obtain ⟨v3, M3, e3, o3, s3⟩ := one_byte (P := Try.prog) (t := 22) (e := 5) (n := m % 256) hd2 bt22 (by omega)
      rw [e3]
      simp only [go_sem]
      obtain ⟨v4, M4, e4, o4, s4⟩ := OB.append (k := M.heap.length) (depth_pos (s2.trans (s3.mono hk2)) enter_depth) (s2.trans (s3.mono hk2)).h bt22 bt22 (o2.step s3) o3.rb (by simp [le_length]; omega)
      rw [e4]
      simp only [go_sem]
      refine W_regionT [] ?_
      simp only [go_sem, bin_quo (show (256 : Int) ≠ 0 by decide), show Int.tdiv (m : Int) 256 = ((m / 256 : Nat) : Int) from rfl, show IntKind.wrap .u64 ((m / 256 : Nat) : Int) = ((m / 256 : Nat) : Int) by rw [wrap_u64]; omega]
      refine W_regionT [] ?_
      simp only [go_sem, show (i : Int) + 1 = ((i + 1 : Nat) : Int) from rfl, wrap_i64 (n := ((i + 1 : Nat) : Int)) (by omega) (by omega)]
      refine ⟨j - 1, by omega, v4, _, _, _, _, _, _, _, _, _, _, _, _, _, i + 1, m / 256, rfl, by omega, ?_, ?_, (s2.trans (s3.mono hk2)).trans s4⟩
      · rw [hm, Nat.div_div_eq_div_mul, Nat.pow_succ]
      · rw [le_succ, ← hm]; exact o4
    · have hi : i = size := by simp at hb; omega
      refine W_exit ?_
      simp only [go_sem]
      (repeat refine W_seq ?_); refine W_regionT [] ?_
      simp only [go_sem]
      subst hi
      exact W_ret ⟨.inr rfl, o2.lev0, Step.leave s2, o2.leave (s2.d.trans enter_depth)⟩
  · exact ⟨_, _, _, _, _, _, _, _, _, _, _, _, _, _, 0, n, rfl, by omega, by simp, OB.nil, Step.refl _ _⟩
theorem refText {M : Mem} {s : List UInt8} (hs : s.length < 1000000) : AC Try.prog 28 [.str s] M (Gives M 5 (le s.length 2 ++ s)) := by
  refine AC_of_W Try.func28 rfl rfl ?_
  have h0 : 0 < M.enter.depth := by rw [enter_depth]; omega
  simp only [Try.ntmps28, List.length_cons, List.length_nil, List.replicate, List.cons_append, List.nil_append]
  (repeat refine W_seq ?_); refine W_regionT [] ?_
  simp only [go_sem]
  (repeat refine W_seq ?_); refine W_regionT [8, 9] ?_
  simp only [go_sem, strLen st9, ti3, ti23, show IntKind.wrap .u64 (s.length : Int) = s.length by rw [wrap_u64]; omega]
  refine AT_call rfl rfl (number (n := s.length) (size := 2) (by omega) (by omega)) fun v1 M1 hd1 ⟨s1, o1⟩ => ?_
  simp only [go_sem]
  obtain ⟨v2, M2, e2, o2, s2⟩ := conv_data (P := Try.prog) (l := s) (depth_pos s1 enter_depth) st9 bt22
  rw [e2]
  simp only [go_sem]
  have s12 := s1.trans (s2.mono s1.h)
  obtain ⟨v3, M3, e3, o3, s3⟩ := OB.append (k := M.heap.length) (depth_pos s12 enter_depth) s12.h bt22 bt22 (o1.step s2) o2.rb (by simp [le_length]; omega)
  rw [e3]
  simp only [go_sem]
  have s13 := s12.trans s3
  exact W_ret ⟨.inr rfl, o3.lev0, Step.leave s13, o3.leave (Step.d s13 |>.trans enter_depth)⟩
theorem refData {M : Mem} {b : AV} {s : List UInt8} (h : RB M b s) (hs : s.length < 1000000) : AC Try.prog 29 [b] M (Gives M 5 (le s.length 4 ++ s)) := by
  refine AC_of_W Try.func29 rfl rfl ?_
  have h0 : 0 < M.enter.depth := by rw [enter_depth]; omega
  simp only [Try.ntmps29, List.length_cons, List.length_nil, List.replicate, List.cons_append, List.nil_append]
  (repeat refine W_seq ?_); refine W_regionT [] ?_
  simp only [go_sem]
  (repeat refine W_seq ?_); refine W_regionT [8] ?_
  simp only [go_sem, h.enter.len bt22, ti3, ti23, show IntKind.wrap .u64 (s.length : Int) = s.length by rw [wrap_u64]; omega]
  refine AT_call rfl rfl (number (n := s.length) (size := 4) (by omega) (by omega)) fun v1 M1 hd1 ⟨s1, o1⟩ => ?_
  simp only [go_sem]
  obtain ⟨v3, M3, e3, o3, s3⟩ := OB.append (k := M.heap.length) (depth_pos s1 enter_depth) s1.h bt22 bt22 o1 (h.enter.step s1) (by simp [le_length]; omega)
  rw [e3]
  simp only [go_sem]
  have s13 := Step.trans s1 s3
  exact W_ret ⟨.inr rfl, o3.lev0, Step.leave s13, o3.leave (Step.d s13 |>.trans enter_depth)⟩
theorem text {M : Mem} {b : AV} {l s : List UInt8} (h : RB M b l) (hl : l.length < 1000000) (hs : s.length < 65536) : AC Try.prog 25 [b, .str s] M (Gives M 5 (l ++ le s.length 2 ++ s)) := by
  refine AC_of_W Try.func25 rfl rfl ?_
  have h0 : 0 < M.enter.depth := by rw [enter_depth]; omega
  simp only [Try.ntmps25, List.length_cons, List.length_nil, List.replicate, List.cons_append, List.nil_append]
  (repeat refine W_seq ?_); refine W_regionT [] ?_
  simp only [go_sem]
  (repeat refine W_seq ?_); refine W_regionT [11] ?_
  simp only [go_sem, strLen st9, ti3, ti24, show IntKind.wrap .u16 (s.length : Int) = s.length by rw [wrap_u16]; omega]
  refine AT_call rfl rfl (u22 (n := s.length) h.enter hl (by omega)) fun v1 M1 hd1 ⟨s1, o1⟩ => ?_
  simp only [go_sem]
  obtain ⟨v3, M3, e3, o3, s3⟩ := OB.appendText (r := s) (k := M.heap.length) (depth_pos s1 enter_depth) s1.h bt22 st9 o1 (by simp [le_length]; omega)
  rw [e3]
  simp only [go_sem]
  have s13 := Step.trans s1 s3
  exact W_ret ⟨.inr rfl, o3.lev0, Step.leave s13, o3.leave (Step.d s13 |>.trans enter_depth)⟩
theorem data {M : Mem} {b c : AV} {l s : List UInt8} (h : RB M b l) (h2 : RB M c s) (hl : l.length < 1000000) (hs : s.length < 1000000) : AC Try.prog 26 [b, c] M (Gives M 5 (l ++ le s.length 4 ++ s)) := by
  refine AC_of_W Try.func26 rfl rfl ?_
  have h0 : 0 < M.enter.depth := by rw [enter_depth]; omega
  simp only [Try.ntmps26, List.length_cons, List.length_nil, List.replicate, List.cons_append, List.nil_append]
  (repeat refine W_seq ?_); refine W_regionT [] ?_
  simp only [go_sem]
  (repeat refine W_seq ?_); refine W_regionT [11] ?_
  simp only [go_sem, h2.enter.len bt22, ti3, ti29, show IntKind.wrap .u32 (s.length : Int) = s.length by rw [wrap_u32]; omega]
  refine AT_call rfl rfl (u23 (n := s.length) h.enter hl (by omega)) fun v1 M1 hd1 ⟨s1, o1⟩ => ?_
  simp only [go_sem]
  obtain ⟨v3, M3, e3, o3, s3⟩ := OB.append (k := M.heap.length) (depth_pos s1 enter_depth) s1.h bt22 bt22 o1 (h2.enter.step s1) (by simp [le_length]; omega)
  rw [e3]
  simp only [go_sem]
  have s13 := Step.trans s1 s3
  exact W_ret ⟨.inr rfl, o3.lev0, Step.leave s13, o3.leave (Step.d s13 |>.trans enter_depth)⟩
theorem pack {M : Mem} {b : AV} {s : List UInt8} {kind tag : Nat} (h : RB M b s) (hs : s.length < 1000000) (hk : kind < 256) (ht : tag < 65536) : AC Try.prog 30 [.int .u8 kind, .int .u16 tag, b] M (Gives M 5 (le (7 + s.length) 4 ++ le kind 1 ++ le tag 2 ++ s)) := by
  refine AC_of_W Try.func30 rfl rfl ?_
  have h0 : 0 < M.enter.depth := by rw [enter_depth]; omega
  simp only [Try.ntmps30, List.length_cons, List.length_nil, List.replicate, List.cons_append, List.nil_append]
  (repeat refine W_seq ?_); refine W_regionT [] ?_
  simp only [go_sem]
  (repeat refine W_seq ?_); refine W_regionT [17] ?_
  simp only [go_sem, h.enter.len bt22, ti3, ti29, show (7 : Int) + (s.length : Int) = ((7 + s.length : Nat) : Int) from rfl, wrap_i64 (n := ((7 + s.length : Nat) : Int)) (by omega) (by omega), show IntKind.wrap .u32 ((7 + s.length : Nat) : Int) = ((7 + s.length : Nat) : Int) by rw [wrap_u32]; omega]
  refine AT_call rfl rfl (u23 (n := 7 + s.length) (l := []) RB.nil (by simp) (by omega)) fun v1 M1 hd1 ⟨s1, o1⟩ => ?_
  simp only [go_sem]
  refine AT_call rfl rfl (u21 (n := kind) o1.rb (by simp [le_length]) hk) fun v2 M2 hd2 ⟨s2, o2⟩ => ?_
  simp only [go_sem]
  refine AT_call rfl rfl (u22 (n := tag) o2.rb (by simp [le_length]) ht) fun v3 M3 hd3 ⟨s3, o3⟩ => ?_
  simp only [go_sem]
  have s12 := s1.trans (s2.mono s1.h)
  have s123 := s12.trans (s3.mono s12.h)
  obtain ⟨v4, M4, e4, o4, s4⟩ := OB.append (k := M.heap.length) (depth_pos s123 enter_depth) s123.h bt22 bt22 (o3.mono s12.h) (h.enter.step s123) (by simp [le_length]; omega)
  rw [e4]
  simp only [go_sem]
  have s14 := s123.trans s4
  simp only [List.nil_append] at o4
  exact W_ret ⟨.inr rfl, o4.lev0, Step.leave s14, o4.leave (Step.d s14 |>.trans enter_depth)⟩
theorem refPack {M : Mem} {b : AV} {s : List UInt8} {kind tag : Nat} (h : RB M b s) (hs : s.length < 1000000) (hk : kind < 256) (ht : tag < 65536) : AC Try.prog 31 [.int .i64 kind, .int .i64 tag, b] M (Gives M 5 (le (7 + s.length) 4 ++ le kind 1 ++ le tag 2 ++ s)) := by
  refine AC_of_W Try.func31 rfl rfl ?_
  have h0 : 0 < M.enter.depth := by rw [enter_depth]; omega
  simp only [Try.ntmps31, List.length_cons, List.length_nil, List.replicate, List.cons_append, List.nil_append]
  (repeat refine W_seq ?_); refine W_regionT [] ?_
  simp only [go_sem]
  (repeat refine W_seq ?_); refine W_regionT [] ?_
  simp only [go_sem, h.enter.len bt22, ti3, ti23, show (7 : Int) + (s.length : Int) = ((7 + s.length : Nat) : Int) from rfl, wrap_i64 (n := ((7 + s.length : Nat) : Int)) (by omega) (by omega), show IntKind.wrap .u64 ((7 + s.length : Nat) : Int) = ((7 + s.length : Nat) : Int) by rw [wrap_u64]; omega]
  refine AT_call rfl rfl (number (n := 7 + s.length) (size := 4) (by omega) (by omega)) fun v1 M1 hd1 ⟨s1, o1⟩ => ?_
  simp only [go_sem]
  (repeat refine W_seq ?_); refine W_regionT [16, 17] ?_
  simp only [go_sem, ti3, ti5, show IntKind.wrap .u8 (kind : Int) = (kind : Int) by rw [wrap_u8]; omega]
  obtain ⟨v2, M2, e2, o2, s2⟩ := one_byte (P := Try.prog) (t := 22) (e := 5) (n := kind) (depth_pos s1 enter_depth) bt22 hk
  rw [e2]
  simp only [go_sem]
  have s12 := s1.trans (s2.mono s1.h)
  obtain ⟨v3, M3, e3, o3, s3⟩ := OB.append (k := M.heap.length) (depth_pos s12 enter_depth) s12.h bt22 bt22 (o1.step s2) o2.rb (by simp [le_length])
  rw [e3]
  simp only [go_sem]
  have s13 := s12.trans s3
  (repeat refine W_seq ?_); refine W_regionT [22] ?_
  simp only [go_sem, ti3, ti23, show IntKind.wrap .u64 (tag : Int) = (tag : Int) by rw [wrap_u64]; omega]
  refine AT_call rfl rfl (number (n := tag) (size := 2) (by omega) (by omega)) fun v4 M4 hd4 ⟨s4, o4⟩ => ?_
  simp only [go_sem]
  have s14 := s13.trans (s4.mono s13.h)
  obtain ⟨v5, M5, e5, o5, s5⟩ := OB.append (k := M.heap.length) (depth_pos s14 enter_depth) s14.h bt22 bt22 (o3.step s4) o4.rb (by simp [le_length])
  rw [e5]
  simp only [go_sem]
  have s15 := s14.trans s5
  (repeat refine W_seq ?_); refine W_regionT [25] ?_
  simp only [go_sem]
  obtain ⟨v6, M6, e6, o6, s6⟩ := OB.append (k := M.heap.length) (depth_pos s15 enter_depth) s15.h bt22 bt22 o5 (h.enter.step s15) (by simp [le_length]; omega)
  rw [e6]
  simp only [go_sem]
  have s16 := s15.trans s6
  have ek : le kind 1 = [UInt8.ofNat kind] := by simp only [le, Nat.mod_eq_of_lt hk]
  rw [← ek] at o6
  exact W_ret ⟨.inr rfl, o6.lev0, Step.leave s16, o6.leave (Step.d s16 |>.trans enter_depth)⟩
theorem lives {M : Mem}  : AC Try.prog 32 [] M (fun v M' => v = .bool true ∧ Step M.heap.length M M') := by
  refine AC_of_W Try.func32 rfl rfl ?_
  have h0 : 0 < M.enter.depth := by rw [enter_depth]; omega
  simp only [Try.ntmps32, List.length_cons, List.length_nil, List.replicate, List.cons_append, List.nil_append]
  (repeat refine W_seq ?_); refine W_regionT [] ?_
  simp only [go_sem]
  (repeat refine W_seq ?_); refine W_regionT [] ?_
  simp only [go_sem]
  refine AT_call rfl rfl (pack (s := []) (kind := 100) (tag := 65535) RB.nil (by simp) (by omega) (by omega)) fun v1 M1 hd1 ⟨s1, o1⟩ => ?_
  simp only [go_sem, o1.rb.text bt22 st9]
  exact W_ret ⟨.inr rfl, rfl, rfl, Step.leave s1⟩
end Go.Proofs.Ytlpcbfndjffpfaa
