/- The walk through LittlePuts. -/
import Derived.Test.YtlpcbfndjffpfaaBytes
import Derived.Test.YtlpcbfndjffpfaaAbs22
set_option maxRecDepth 100000
set_option maxHeartbeats 4000000
set_option linter.unusedSimpArgs false
set_option linter.unusedVariables false
namespace Go.Proofs.Ytlpcbfndjffpfaa
open Go.Abs
theorem mixed : Try.prog.follows .mixedOrders = true := by kernel_rfl
theorem littlePuts {M : Mem} {b s : AV} {lb lt : List UInt8} {n kind tag : Nat} (hb : RB M b lb) (ht : RB M s lt) (hn : n < 18446744073709551616) (hk : kind < 256) (htag : tag < 65536) : AC Try.prog 3 [b, .int .u64 n, s, .int .u8 kind, .int .u16 tag] M (fun v M' => v = .bool true ∧ Step M.heap.length M M') := by
  refine AC_of_W Try.func3 rfl rfl ?_
  have h0 : 0 < M.enter.depth := by rw [enter_depth]; omega
  simp only [Try.ntmps3, List.length_cons, List.length_nil, List.replicate, List.cons_append, List.nil_append]
  (repeat refine W_seq ?_); refine W_regionT [] ?_
  simp (maxSteps := 1000000) only [go_sem]
  (repeat refine W_seq ?_); refine W_regionT [] ?_
  simp (maxSteps := 1000000) only [go_sem]
  refine AT_call rfl rfl (few (n := 8) hb.enter (by omega)) fun v1 M1 hd1 ⟨s1, o1⟩ => ?_
  simp (maxSteps := 1000000) only [go_sem]
  (repeat refine W_seq ?_); refine W_regionT [] ?_
  simp (maxSteps := 1000000) only [go_sem]
  refine AT_call rfl rfl (few (n := 40) (ht.enter.step s1) (by omega)) fun v2 M2 hd2 ⟨q2, o2⟩ => ?_
  simp (maxSteps := 1000000) only [go_sem]
  have r1 := o1.rb.step q2
  have s2 := s1.trans (q2.mono s1.h)
  have r2 := o2.rb
  generalize hown : lb.take 8 = own at r1
  generalize htxt : lt.take 40 = txt at r2
  have lown : own.length ≤ 8 := by rw [← hown]; simp; omega
  have ltxt : txt.length ≤ 40 := by rw [← htxt]; simp; omega
  clear o1 o2
  (repeat refine W_seq ?_); refine W_regionT [] ?_
  simp (maxSteps := 1000000) only [go_sem, r1.text bt22 st9]
  (repeat refine W_seq ?_); refine W_regionT [] ?_
  simp (maxSteps := 1000000) only [go_sem, ti23, ti5, show IntKind.wrap .u8 (n : Int) = ((n % 256 : Nat) : Int) by rw [wrap_u8]; rfl]
  refine AT_call rfl rfl (u21 (n := n % 256) r1 (by omega) (by omega)) fun v3 M3 hd3 ⟨q3, o3⟩ => ?_
  simp (maxSteps := 1000000) only [go_sem]
  have s3 := s2.trans (q3.mono s2.h)
  rw [le_mod n 1 256 rfl] at o3
  have p3 := o3.rb
  clear o3
  replace r1 := r1.step q3
  replace r2 := r2.step q3
  (repeat refine W_seq ?_); refine W_regionT [] ?_
  simp (maxSteps := 1000000) only [go_sem, ti23, ti24, show IntKind.wrap .u16 (n : Int) = ((n % 65536 : Nat) : Int) by rw [wrap_u16]; rfl]
  refine AT_call rfl rfl (u22 (n := n % 65536) r1 (by omega) (by omega)) fun v4 M4 hd4 ⟨q4, o4⟩ => ?_
  simp (maxSteps := 1000000) only [go_sem]
  have s4 := s3.trans (q4.mono s3.h)
  rw [le_mod n 2 65536 rfl] at o4
  have p4 := o4.rb
  clear o4
  replace r1 := r1.step q4
  replace r2 := r2.step q4
  replace p3 := p3.step q4
  (repeat refine W_seq ?_); refine W_regionT [] ?_
  simp (maxSteps := 1000000) only [go_sem, ti23, ti29, show IntKind.wrap .u32 (n : Int) = ((n % 4294967296 : Nat) : Int) by rw [wrap_u32]; rfl]
  refine AT_call rfl rfl (u23 (n := n % 4294967296) r1 (by omega) (by omega)) fun v5 M5 hd5 ⟨q5, o5⟩ => ?_
  simp (maxSteps := 1000000) only [go_sem]
  have s5 := s4.trans (q5.mono s4.h)
  rw [le_mod n 4 4294967296 rfl] at o5
  have p5 := o5.rb
  clear o5
  replace r1 := r1.step q5
  replace r2 := r2.step q5
  replace p3 := p3.step q5
  replace p4 := p4.step q5
  (repeat refine W_seq ?_); refine W_regionT [] ?_
  simp (maxSteps := 1000000) only [go_sem]
  refine AT_call rfl rfl (u24 (n := n) r1 (by omega) (by omega)) fun v6 M6 hd6 ⟨q6, o6⟩ => ?_
  simp (maxSteps := 1000000) only [go_sem]
  have s6 := s5.trans (q6.mono s5.h)
  have p6 := o6.rb
  clear o6
  replace r1 := r1.step q6
  replace r2 := r2.step q6
  replace p3 := p3.step q6
  replace p4 := p4.step q6
  replace p5 := p5.step q6
  (repeat refine W_seq ?_); refine W_regionT [] ?_
  simp (maxSteps := 1000000) only [go_sem, r2.text bt22 st9]
  refine AT_call rfl rfl (text r1 (by omega) (by omega)) fun v7 M7 hd7 ⟨q7, o7⟩ => ?_
  simp (maxSteps := 1000000) only [go_sem]
  have s7 := s6.trans (q7.mono s6.h)
  have p7 := o7.rb
  clear o7
  replace r1 := r1.step q7
  replace r2 := r2.step q7
  replace p3 := p3.step q7
  replace p4 := p4.step q7
  replace p5 := p5.step q7
  replace p6 := p6.step q7
  (repeat refine W_seq ?_); refine W_regionT [] ?_
  simp (maxSteps := 1000000) only [go_sem]
  refine AT_call rfl rfl (data r1 r2 (by omega) (by omega)) fun v8 M8 hd8 ⟨q8, o8⟩ => ?_
  simp (maxSteps := 1000000) only [go_sem]
  have s8 := s7.trans (q8.mono s7.h)
  have p8 := o8.rb
  clear o8
  replace r1 := r1.step q8
  replace r2 := r2.step q8
  replace p3 := p3.step q8
  replace p4 := p4.step q8
  replace p5 := p5.step q8
  replace p6 := p6.step q8
  replace p7 := p7.step q8
  (repeat refine W_seq ?_); refine W_regionD [] [4, 13, 23, 33] [0, 1, 2, 3, 4, 5, 6, 7, 8, 9, 10, 11, 12, 13, 14, 15, 16, 17, 18, 19, 20, 21, 22, 23, 24, 25, 26, 27, 28, 29, 30, 31, 32, 33, 34, 35, 36, 37] [0, 1, 0, 0, 8, 24, 60, 127, 255, 511, 1023, 511, 511, 4607, 12799, 31231, 65535, 131071, 262143, 524287, 1048575, 524287, 524287, 4718591, 13107199, 31981567, 67108863, 134217727, 268435455, 536870911, 1073741823, 536870911, 536870911, 4831838207, 13421772799, 32749125631, 68719476735, 137438953471] mixed (by kernel_rfl) (by kernel_rfl) (by kernel_rfl) ?_
  simp (maxSteps := 1000000) only [listed, go_sem]
  refine AD_read (v := .str (own ++ le n 1)) (fun M' => RB M' v3 (own ++ le n 1)) rfl rfl (fun M' h => h.text bt22 st9) p3 ?_
  simp (maxSteps := 1000000) only [go_sem]
  refine AD_call rfl rfl rfl (number (n := n) (size := 1) (by omega) (by omega)) fun v9 M9 hd9 ⟨q9, o9⟩ => ?_
  have s9 := s8.trans (q9.mono s8.h)
  have p9 := o9.rb
  clear o9
  replace r1 := r1.step q9
  replace r2 := r2.step q9
  replace p3 := p3.step q9
  replace p4 := p4.step q9
  replace p5 := p5.step q9
  replace p6 := p6.step q9
  replace p7 := p7.step q9
  replace p8 := p8.step q9
  refine ⟨⟨fun _ => p3, trivial⟩, ?_⟩
  simp (maxSteps := 1000000) only [go_sem]
  refine AD_read (v := .str (le n 1)) (fun M' => RB M' v9 (le n 1)) rfl rfl (fun M' h => h.text bt22 st9) p9 ?_
  simp (maxSteps := 1000000) only [go_sem]
  simp (maxSteps := 1000000) only [go_sem, bin_cat (s := own) (r := le n 1) (by simp [le_length]; omega), Bool.not_true, Bool.false_eq_true, if_false]
  refine AD_read (v := .str (own ++ le n 2)) (fun M' => RB M' v4 (own ++ le n 2)) rfl rfl (fun M' h => h.text bt22 st9) p4 ?_
  simp (maxSteps := 1000000) only [go_sem]
  refine AD_call rfl rfl rfl (number (n := n) (size := 2) (by omega) (by omega)) fun v10 M10 hd10 ⟨q10, o10⟩ => ?_
  have s10 := s9.trans (q10.mono s9.h)
  have p10 := o10.rb
  clear o10
  replace r1 := r1.step q10
  replace r2 := r2.step q10
  replace p3 := p3.step q10
  replace p4 := p4.step q10
  replace p5 := p5.step q10
  replace p6 := p6.step q10
  replace p7 := p7.step q10
  replace p8 := p8.step q10
  replace p9 := p9.step q10
  refine ⟨⟨fun _ => p4, fun _ => p9, fun _ => p3, trivial⟩, ?_⟩
  simp (maxSteps := 1000000) only [go_sem]
  refine AD_read (v := .str (le n 2)) (fun M' => RB M' v10 (le n 2)) rfl rfl (fun M' h => h.text bt22 st9) p10 ?_
  simp (maxSteps := 1000000) only [go_sem]
  simp (maxSteps := 1000000) only [go_sem, bin_cat (s := own) (r := le n 2) (by simp [le_length]; omega), Bool.not_true, Bool.false_eq_true, if_false]
  refine AD_read (v := .str (own ++ le n 4)) (fun M' => RB M' v5 (own ++ le n 4)) rfl rfl (fun M' h => h.text bt22 st9) p5 ?_
  simp (maxSteps := 1000000) only [go_sem]
  refine AD_call rfl rfl rfl (number (n := n) (size := 4) (by omega) (by omega)) fun v11 M11 hd11 ⟨q11, o11⟩ => ?_
  have s11 := s10.trans (q11.mono s10.h)
  have p11 := o11.rb
  clear o11
  replace r1 := r1.step q11
  replace r2 := r2.step q11
  replace p3 := p3.step q11
  replace p4 := p4.step q11
  replace p5 := p5.step q11
  replace p6 := p6.step q11
  replace p7 := p7.step q11
  replace p8 := p8.step q11
  replace p9 := p9.step q11
  replace p10 := p10.step q11
  refine ⟨⟨fun _ => p5, fun _ => p10, fun _ => p4, fun _ => p9, fun _ => p3, trivial⟩, ?_⟩
  simp (maxSteps := 1000000) only [go_sem]
  refine AD_read (v := .str (le n 4)) (fun M' => RB M' v11 (le n 4)) rfl rfl (fun M' h => h.text bt22 st9) p11 ?_
  simp (maxSteps := 1000000) only [go_sem]
  simp (maxSteps := 1000000) only [go_sem, bin_cat (s := own) (r := le n 4) (by simp [le_length]; omega), Bool.not_true, Bool.false_eq_true, if_false]
  refine AD_read (v := .str (own ++ le n 8)) (fun M' => RB M' v6 (own ++ le n 8)) rfl rfl (fun M' h => h.text bt22 st9) p6 ?_
  simp (maxSteps := 1000000) only [go_sem]
  refine AD_call rfl rfl rfl (number (n := n) (size := 8) (by omega) (by omega)) fun v12 M12 hd12 ⟨q12, o12⟩ => ?_
  have s12 := s11.trans (q12.mono s11.h)
  have p12 := o12.rb
  clear o12
  replace r1 := r1.step q12
  replace r2 := r2.step q12
  replace p3 := p3.step q12
  replace p4 := p4.step q12
  replace p5 := p5.step q12
  replace p6 := p6.step q12
  replace p7 := p7.step q12
  replace p8 := p8.step q12
  replace p9 := p9.step q12
  replace p10 := p10.step q12
  replace p11 := p11.step q12
  refine ⟨⟨fun _ => p6, fun _ => p11, fun _ => p5, fun _ => p10, fun _ => p4, fun _ => p9, fun _ => p3, trivial⟩, ?_⟩
  simp (maxSteps := 1000000) only [go_sem]
  refine AD_read (v := .str (le n 8)) (fun M' => RB M' v12 (le n 8)) rfl rfl (fun M' h => h.text bt22 st9) p12 ?_
  simp (maxSteps := 1000000) only [go_sem]
  simp (maxSteps := 1000000) only [go_sem, bin_cat (s := own) (r := le n 8) (by simp [le_length]; omega), Bool.not_true, Bool.false_eq_true, if_false]
  refine W_cond (b := false) rfl ?_
  simp only [Bool.false_eq_true, if_false]
  refine W_skip ?_
  simp (maxSteps := 1000000) only [go_sem]
  rw [List.append_assoc] at p7 p8
  (repeat refine W_seq ?_); refine W_regionD [] [5, 14, 29, 36, 41] [0, 1, 2, 3, 4, 5, 6, 7, 8, 9, 10, 11, 12, 13, 14, 15, 16, 17, 18, 19, 20, 21, 22, 23, 24, 25, 26, 27, 28, 31, 32, 33, 34, 35, 29, 30, 36, 37, 38, 39, 40, 41, 42, 43] [0, 1, 0, 0, 8, 24, 56, 124, 255, 511, 1023, 2047, 1023, 1023, 9215, 25599, 62463, 131071, 262143, 524287, 1048575, 2097151, 1048575, 8388607, 16777215, 33554431, 67108863, 67108863, 67108863, 536870911, 1073741823, 67108863, 2214592511, 67108863, 8657043455, 67108863, 67645734911, 136365211647, 274877906943, 549755813887, 1099511627775, 2199023255551, 4398046511103, 8796093022207] mixed (by kernel_rfl) (by kernel_rfl) (by kernel_rfl) ?_
  simp (maxSteps := 1000000) only [listed, go_sem]
  refine AD_read (v := .str (own ++ (le txt.length 2 ++ txt))) (fun M' => RB M' v7 (own ++ (le txt.length 2 ++ txt))) rfl rfl (fun M' h => h.text bt22 st9) p7 ?_
  simp (maxSteps := 1000000) only [go_sem]
  refine AD_read (v := .str (txt)) (fun M' => RB M' v2 (txt)) rfl rfl (fun M' h => h.text bt22 st9) r2 ?_
  simp (maxSteps := 1000000) only [go_sem]
  refine AD_call rfl rfl rfl (refText (s := txt) (by omega)) fun v13 M13 hd13 ⟨q13, o13⟩ => ?_
  have s13 := s12.trans (q13.mono s12.h)
  have p13 := o13.rb
  clear o13
  replace r1 := r1.step q13
  replace r2 := r2.step q13
  replace p3 := p3.step q13
  replace p4 := p4.step q13
  replace p5 := p5.step q13
  replace p6 := p6.step q13
  replace p7 := p7.step q13
  replace p8 := p8.step q13
  replace p9 := p9.step q13
  replace p10 := p10.step q13
  replace p11 := p11.step q13
  replace p12 := p12.step q13
  refine ⟨⟨fun _ => r2, fun _ => p7, trivial⟩, ?_⟩
  simp (maxSteps := 1000000) only [go_sem]
  refine AD_read (v := .str (le txt.length 2 ++ txt)) (fun M' => RB M' v13 (le txt.length 2 ++ txt)) rfl rfl (fun M' h => h.text bt22 st9) p13 ?_
  simp (maxSteps := 1000000) only [go_sem]
  simp (maxSteps := 1000000) only [go_sem, bin_cat (s := own) (r := le txt.length 2 ++ txt) (by simp [le_length]; omega)]
  refine AD_read (v := .str (own ++ (le txt.length 4 ++ txt))) (fun M' => RB M' v8 (own ++ (le txt.length 4 ++ txt))) rfl rfl (fun M' h => h.text bt22 st9) p8 ?_
  simp (maxSteps := 1000000) only [go_sem]
  refine AD_call rfl rfl rfl (refData (s := txt) r2 (by omega)) fun v14 M14 hd14 ⟨q14, o14⟩ => ?_
  have s14 := s13.trans (q14.mono s13.h)
  have p14 := o14.rb
  clear o14
  replace r1 := r1.step q14
  replace r2 := r2.step q14
  replace p3 := p3.step q14
  replace p4 := p4.step q14
  replace p5 := p5.step q14
  replace p6 := p6.step q14
  replace p7 := p7.step q14
  replace p8 := p8.step q14
  replace p9 := p9.step q14
  replace p10 := p10.step q14
  replace p11 := p11.step q14
  replace p12 := p12.step q14
  replace p13 := p13.step q14
  refine ⟨⟨fun _ => p8, fun _ => p13, fun _ => r2, fun _ => p7, trivial⟩, ?_⟩
  simp (maxSteps := 1000000) only [go_sem]
  refine AD_read (v := .str (le txt.length 4 ++ txt)) (fun M' => RB M' v14 (le txt.length 4 ++ txt)) rfl rfl (fun M' h => h.text bt22 st9) p14 ?_
  simp (maxSteps := 1000000) only [go_sem]
  simp (maxSteps := 1000000) only [go_sem, bin_cat (s := own) (r := le txt.length 4 ++ txt) (by simp [le_length]; omega), if_true]
  refine AD_read (v := .str (own)) (fun M' => RB M' v1 (own)) rfl rfl (fun M' h => h.text bt22 st9) r1 ?_
  simp (maxSteps := 1000000) only [go_sem]
  simp (maxSteps := 1000000) only [go_sem, if_true]
  refine AD_convI rfl rfl ti5 ti3 rfl ?_
  simp (maxSteps := 1000000) only [go_sem, wrap_i64 (n := (kind : Int)) (by omega) (by omega)]
  refine AD_convI rfl rfl ti24 ti3 rfl ?_
  simp (maxSteps := 1000000) only [go_sem, wrap_i64 (n := (tag : Int)) (by omega) (by omega)]
  refine AD_call rfl rfl rfl (pack (s := txt) (kind := kind) (tag := tag) r2 (by omega) hk htag) fun v15 M15 hd15 ⟨q15, o15⟩ => ?_
  have s15 := s14.trans (q15.mono s14.h)
  have p15 := o15.rb
  clear o15
  replace r1 := r1.step q15
  replace r2 := r2.step q15
  replace p3 := p3.step q15
  replace p4 := p4.step q15
  replace p5 := p5.step q15
  replace p6 := p6.step q15
  replace p7 := p7.step q15
  replace p8 := p8.step q15
  replace p9 := p9.step q15
  replace p10 := p10.step q15
  replace p11 := p11.step q15
  replace p12 := p12.step q15
  replace p13 := p13.step q15
  replace p14 := p14.step q15
  refine ⟨⟨fun _ => r1, fun _ => p14, fun _ => p8, fun _ => p13, fun _ => r2, fun _ => p7, trivial⟩, ?_⟩
  simp (maxSteps := 1000000) only [go_sem]
  refine AD_read (v := .str (le (7 + txt.length) 4 ++ le kind 1 ++ le tag 2 ++ txt)) (fun M' => RB M' v15 (le (7 + txt.length) 4 ++ le kind 1 ++ le tag 2 ++ txt)) rfl rfl (fun M' h => h.text bt22 st9) p15 ?_
  simp (maxSteps := 1000000) only [go_sem]
  refine AD_call rfl rfl rfl (refPack (s := txt) (kind := kind) (tag := tag) r2 (by omega) hk htag) fun v16 M16 hd16 ⟨q16, o16⟩ => ?_
  have s16 := s15.trans (q16.mono s15.h)
  have p16 := o16.rb
  clear o16
  replace r1 := r1.step q16
  replace r2 := r2.step q16
  replace p3 := p3.step q16
  replace p4 := p4.step q16
  replace p5 := p5.step q16
  replace p6 := p6.step q16
  replace p7 := p7.step q16
  replace p8 := p8.step q16
  replace p9 := p9.step q16
  replace p10 := p10.step q16
  replace p11 := p11.step q16
  replace p12 := p12.step q16
  replace p13 := p13.step q16
  replace p14 := p14.step q16
  replace p15 := p15.step q16
  refine ⟨⟨fun _ => p15, fun _ => r1, fun _ => p14, fun _ => p8, fun _ => p13, fun _ => r2, fun _ => p7, trivial⟩, ?_⟩
  simp (maxSteps := 1000000) only [go_sem]
  refine AD_read (v := .str (le (7 + txt.length) 4 ++ le kind 1 ++ le tag 2 ++ txt)) (fun M' => RB M' v16 (le (7 + txt.length) 4 ++ le kind 1 ++ le tag 2 ++ txt)) rfl rfl (fun M' h => h.text bt22 st9) p16 ?_
  simp (maxSteps := 1000000) only [go_sem]
  simp (maxSteps := 1000000) only [go_sem, if_true]
  refine AD_call rfl rfl rfl lives fun v17 M17 hd17 ⟨e17, q17⟩ => ?_
  subst e17
  have s17 := s16.trans (q17.mono s16.h)
  replace r1 := r1.step q17
  replace r2 := r2.step q17
  replace p3 := p3.step q17
  replace p4 := p4.step q17
  replace p5 := p5.step q17
  replace p6 := p6.step q17
  replace p7 := p7.step q17
  replace p8 := p8.step q17
  replace p9 := p9.step q17
  replace p10 := p10.step q17
  replace p11 := p11.step q17
  replace p12 := p12.step q17
  replace p13 := p13.step q17
  replace p14 := p14.step q17
  replace p15 := p15.step q17
  replace p16 := p16.step q17
  refine ⟨⟨fun _ => p16, fun _ => p15, fun _ => r1, fun _ => p14, fun _ => p8, fun _ => p13, fun _ => r2, fun _ => p7, trivial⟩, ?_⟩
  simp (maxSteps := 1000000) only [go_sem, if_true]
  exact W_ret ⟨.inr rfl, rfl, rfl, Step.leave s17⟩
end Go.Proofs.Ytlpcbfndjffpfaa
