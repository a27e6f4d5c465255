/- The walk of the reference's SameTexts, Same, word, May, Short, Kind, low. -/
import Derived.Test.YtlpcbfndjffpfaaRefs17
import Derived.Test.YtlpcbfndjffpfaaAsks3
set_option maxRecDepth 100000
set_option maxHeartbeats 4000000
set_option linter.unusedSimpArgs false
set_option linter.unusedVariables false
namespace Go.Proofs.Ytlpcbfndjffpfaa
open Go.Abs
theorem same_eq2 {a b : AskR} : decide (a = b) = (decide (a.names = b.names) && (decide (a.ty = b.ty) && decide (a.tag = b.tag) && decide (a.fid = b.fid) && decide (a.newfid = b.newfid) && decide (a.oldtag = b.oldtag) && decide (a.msize = b.msize) && decide (a.mode = b.mode) && decide (a.perm = b.perm)) && decide (a.off = b.off) && decide (a.count = b.count) && decide (a.size = b.size) && (a.name == b.name) && (a.data == b.data)) := by
  rw [same_eq]; ac_rfl
theorem inB_up {n : Int} (h : -9223372036854775808 ≤ n ∧ n < 9223372036854775808) : inB (IntKind.wrap .i64 (n + 1)) 0 4294967295 = inB n (-1) 4294967294 := by
  rcases (show n = 9223372036854775807 ∨ n < 9223372036854775807 by omega) with h1 | h1
  · subst h1; decide
  · rw [wrap_i64 (by omega) (by omega)]
    unfold inB
    rw [Bool.eq_iff_iff]; simp; omega
theorem fields_none {k : Int} : (fieldsOf k == []) = !known k := by unfold known; rw [Bool.not_not]; cases fieldsOf k <;> rfl
section
variable {H H' : List Block} {S : List (List Block)} {F : List Block} {M' : Mem}
theorem texts103 {v w : AV} {l r : List (List UInt8)} (h1 : TH H v l) (h2 : TH H w r) (hl : l.length < 1000000) : AC Try.prog 103 [v, w] ⟨H, S⟩ (fun x M' => x = .bool (decide (l = r)) ∧ M' = ⟨H, S⟩) := by
  refine AC_of_WE Try.func103 rfl ?_
  simp only [Try.ntmps103, List.length_cons, List.length_nil, List.replicate, List.cons_append, List.nil_append, mem_enter]
  (repeat refine W_seq ?_); refine W_regionT [] ?_
  simp only [go_sem]
  rcases (show ¬ l.length = r.length ∨ l.length = r.length by omega) with hne | hne
  · have hc : ¬ (l.length : Int) = (r.length : Int) := by omega
    (repeat refine W_seq ?_); refine W_regionT [] ?_
    simp only [go_sem, h1.len, h2.len, hc]
    (repeat refine W_seq ?_)
    refine W_cond (b := true) rfl ?_
    simp only [if_true]
    (repeat refine W_seq ?_); refine W_regionT [] ?_
    simp only [go_sem]
    refine W_ret ⟨.inr rfl, _, rfl, rfl, ?_, rfl⟩
    rw [show decide (l = r) = false from decide_eq_false (fun h => hne (by rw [h]))]; rfl
  · have hc : (l.length : Int) = (r.length : Int) := by omega
    (repeat refine W_seq ?_); refine W_regionT [] ?_
    simp only [go_sem, h1.len, h2.len, hc]
    (repeat refine W_seq ?_)
    refine W_cond (b := false) rfl ?_
    simp only [Bool.false_eq_true, if_false]
    refine W_skip ?_
    simp only [go_sem]
    (repeat refine W_seq ?_); refine W_regionT [] ?_
    simp only [go_sem]
    (repeat refine W_seq ?_)
    refine W_block (W_loop (L_inv (fun j env M' => ∃ (x2 x3 x4 x6 x7 x8 x9 x10 x11 x12 x13 x14 x15 x16 x17 x18 x19 x20 x21 x22 x23 x24 x25 : AV) (i : Nat), env = [v, w, x2, x3, x4, .int .i64 i, x6, x7, x8, x9, x10, x11, x12, x13, x14, x15, x16, x17, x18, x19, x20, x21, x22, x23, x24, x25] ∧ i + j = l.length ∧ M' = ⟨H, [] :: S⟩ ∧ ∀ m, m < i → l[m]? = r[m]?) (fun j env M2 => ?_) (l.length) ?_))
    case refine_2 => exact ⟨_, _, _, _, _, _, _, _, _, _, _, _, _, _, _, _, _, _, _, _, _, _, _, 0, rfl, by omega, rfl, fun m hm => by omega⟩
    refine exE fun x2 => exE fun x3 => exE fun x4 => exE fun x6 => exE fun x7 => exE fun x8 => exE fun x9 => exE fun x10 => exE fun x11 => exE fun x12 => exE fun x13 => exE fun x14 => exE fun x15 => exE fun x16 => exE fun x17 => exE fun x18 => exE fun x19 => exE fun x20 => exE fun x21 => exE fun x22 => exE fun x23 => exE fun x24 => exE fun x25 => ?_
    rintro ⟨i, rfl, hij, rfl, heq⟩
    (repeat refine W_seq ?_); refine W_regionT [] ?_
    simp only [go_sem, h1.len]
    (repeat refine W_seq ?_)
    refine W_cond_if rfl (fun hb => ?_) (fun hb => ?_)
    · have hi : i < l.length := by simpa using hb
      refine W_skip ?_
      simp only [go_sem]
      (repeat refine W_seq ?_)
      refine W_block ?_
      rcases (Classical.em (l[i] = (r[i]'(by omega)))) with hx | hx
      · have hx' : (l[i] == (r[i]'(by omega))) = true := by simpa using hx
        have heq' : ∀ m, m < i + 1 → l[m]? = r[m]? := fun m hm => by
          rcases Nat.lt_or_ge m i with h | h
          · exact heq m h
          · have : m = i := by omega
            subst this
            rw [List.getElem?_eq_getElem hi, List.getElem?_eq_getElem (show m < r.length by omega), hx]
        have hir : i < r.length := by omega
        have a1 := at70 (S := [] :: S) h1 hi
        have a2 := at70 (S := [] :: S) h2 hir
        (repeat refine W_seq ?_); refine W_regionC [] [] [0, 1, 2, 3, 4, 5, 6, 7, 8] [0, 0, 3, 7, 0, 0, 48, 112, 255] mixedM (by kernel_rfl) (by kernel_rfl) (by kernel_rfl) (by kernel_rfl) ?_
        simp only [listed, go_sem, a1.1, a1.2, a2.1, a2.2, hx', List.map_cons, List.map_nil]
        (repeat refine W_seq ?_)
        refine W_cond (b := false) rfl ?_
        simp only [Bool.false_eq_true, if_false]
        refine W_skip ?_
        simp only [go_sem]
        (repeat refine W_seq ?_); refine W_regionT [] ?_
        simp only [go_sem, show (i : Int) + 1 = ((i + 1 : Nat) : Int) from rfl, wrap_i64 (n := ((i + 1 : Nat) : Int)) (by omega) (by omega)]
        refine ⟨j - 1, by omega, _, _, _, _, _, _, _, _, _, _, _, _, _, _, _, _, _, _, _, _, _, _, _, i + 1, rfl, by omega, trivial, heq'⟩
      · have hx' : (l[i] == (r[i]'(by omega))) = false := by simpa using hx
        have hir : i < r.length := by omega
        have a1 := at70 (S := [] :: S) h1 hi
        have a2 := at70 (S := [] :: S) h2 hir
        (repeat refine W_seq ?_); refine W_regionC [] [] [0, 1, 2, 3, 4, 5, 6, 7, 8] [0, 0, 3, 7, 0, 0, 48, 112, 255] mixedM (by kernel_rfl) (by kernel_rfl) (by kernel_rfl) (by kernel_rfl) ?_
        simp only [listed, go_sem, a1.1, a1.2, a2.1, a2.2, hx', List.map_cons, List.map_nil]
        (repeat refine W_seq ?_)
        refine W_cond (b := true) rfl ?_
        simp only [if_true]
        (repeat refine W_seq ?_); refine W_regionT [] ?_
        simp only [go_sem]
        refine W_ret ⟨.inr rfl, _, rfl, rfl, ?_, rfl⟩
        rw [show decide (l = r) = false from decide_eq_false (fun h => hx (by subst h; rfl))]; rfl
    · have hi : l.length = i := by simp at hb; omega
      rw [← hi] at heq
      (repeat refine W_seq ?_)
      refine W_exit ?_
      simp only [go_sem]
      (repeat refine W_seq ?_); refine W_regionT [] ?_
      simp only [go_sem]
      refine W_ret ⟨.inr rfl, _, rfl, rfl, ?_, rfl⟩
      rw [show decide (l = r) = true from decide_eq_true ?_]; rfl
      apply List.ext_getElem?
      intro m
      rcases Nat.lt_or_ge m l.length with hm | hm
      · exact heq m hm
      · rw [List.getElem?_eq_none hm, List.getElem?_eq_none (by omega)]
theorem same59 {v w : AV} {a b : AskR} (ha : AskV H v a) (hb0 : AskV H w b) (hl : a.names.length < 1000000) : AC Try.prog 59 [v, w] ⟨H, S⟩ (fun x M' => x = .bool (decide (a = b)) ∧ M' = ⟨H, S⟩) := by
  refine AC_of_WE Try.func59 rfl ?_
  simp only [Try.ntmps59, List.length_cons, List.length_nil, List.replicate, List.cons_append, List.nil_append, mem_enter]
  obtain ⟨vn, vd, rfl, hn, hd⟩ := ha
  obtain ⟨wn, wd, rfl, hn2, hd2⟩ := hb0
  have st1 := cells_st (a := a) hn hd
  have st2 := cells_st (a := b) hn2 hd2
  (repeat refine W_seq ?_); refine W_regionT [] ?_
  simp only [go_sem, kboxL st1, kboxL st2, List.nil_append, List.cons_append, List.length_nil, List.length_cons, Nat.zero_add, Nat.reduceAdd]
  (repeat refine W_seq ?_); refine W_regionT [] ?_
  simp only [go_sem, ka0_0, ka1_0, ka2_0, ka3_0, ka4_0, ka5_0, ka6_0, ka7_0, ka8_0, ka9_0, ka10_0, ka11_0, ka12_0, ka13_0, kl0_0, kl1_0, kl2_0, kl3_0, kl4_0, kl5_0, kl6_0, kl7_0, kl8_0, kl9_0, kl10_0, kl11_0, kl12_0, kl13_0, kL_0, ka0_1, ka1_1, ka2_1, ka3_1, ka4_1, ka5_1, ka6_1, ka7_1, ka8_1, ka9_1, ka10_1, ka11_1, ka12_1, ka13_1, kl0_1, kl1_1, kl2_1, kl3_1, kl4_1, kl5_1, kl6_1, kl7_1, kl8_1, kl9_1, kl10_1, kl11_1, kl12_1, kl13_1, kL_1]
  refine AT_call rfl rfl (texts103 hn hn2 hl) fun v M1 hd1 h1 => ?_
  obtain ⟨hv, hM⟩ := h1; subst hv; subst hM
  simp only [go_sem]
  (repeat refine W_seq ?_)
  refine W_mid (fun env M' => ∃ (x4 x7 x8 x9 x10 x11 x12 x13 x14 x15 x16 x17 x18 x19 x20 x21 x22 x23 x24 x25 x26 x27 x28 x29 x30 x31 x32 x33 x34 x35 x36 x37 x38 x39 x40 x41 x42 x43 x44 x45 x46 x47 x48 x49 x50 x51 x52 x53 x54 x55 x56 x57 x58 x59 x60 x61 x62 x63 x64 x65 x66 x67 x68 x69 x70 x71 x72 x73 x74 x75 x76 x77 x78 x79 x80 x81 x82 x83 x84 x85 x86 x87 x88 x89 x90 x91 x92 x93 x94 x95 x96 x97 x98 x99 x100 x101 x102 x103 x104 x105 x106 : AV) (p : Bool), env = [.agg (a.cells vn vd), .agg (b.cells wn wd), .ptr ⟨S.length + 1, 0, 0⟩, .ptr ⟨S.length + 1, 1, 0⟩, x4, .bool (decide (a.names = b.names)), .bool p, x7, x8, x9, x10, x11, x12, x13, x14, x15, x16, x17, x18, x19, x20, x21, x22, x23, x24, x25, x26, x27, x28, x29, x30, x31, x32, x33, x34, x35, x36, x37, x38, x39, x40, x41, x42, x43, x44, x45, x46, x47, x48, x49, x50, x51, x52, x53, x54, x55, x56, x57, x58, x59, x60, x61, x62, x63, x64, x65, x66, x67, x68, x69, x70, x71, x72, x73, x74, x75, x76, x77, x78, x79, x80, x81, x82, x83, x84, x85, x86, x87, x88, x89, x90, x91, x92, x93, x94, x95, x96, x97, x98, x99, x100, x101, x102, x103, x104, x105, x106] ∧ p = (decide (a.ty = b.ty) && decide (a.tag = b.tag) && decide (a.fid = b.fid) && decide (a.newfid = b.newfid) && decide (a.oldtag = b.oldtag) && decide (a.msize = b.msize) && decide (a.mode = b.mode) && decide (a.perm = b.perm)) ∧ M' = ⟨H, [.row ⟨72, 14, a.cells vn vd, false, false⟩, .row ⟨72, 14, b.cells wn wd, false, false⟩] :: S⟩) ?_ ?_
  · rcases ff8 (decide (a.ty = b.ty)) (decide (a.tag = b.tag)) (decide (a.fid = b.fid)) (decide (a.newfid = b.newfid)) (decide (a.oldtag = b.oldtag)) (decide (a.msize = b.msize)) (decide (a.mode = b.mode)) (decide (a.perm = b.perm)) with Q | Q | Q | Q | Q | Q | Q | Q | Q
    · (repeat refine W_seq ?_); refine W_regionT [] ?_
      simp (maxSteps := 1000000) only [go_sem, Q, ka0_0, ka1_0, ka2_0, ka3_0, ka4_0, ka5_0, ka6_0, ka7_0, ka8_0, ka9_0, ka10_0, ka11_0, ka12_0, ka13_0, kl0_0, kl1_0, kl2_0, kl3_0, kl4_0, kl5_0, kl6_0, kl7_0, kl8_0, kl9_0, kl10_0, kl11_0, kl12_0, kl13_0, kL_0, ka0_1, ka1_1, ka2_1, ka3_1, ka4_1, ka5_1, ka6_1, ka7_1, ka8_1, ka9_1, ka10_1, ka11_1, ka12_1, ka13_1, kl0_1, kl1_1, kl2_1, kl3_1, kl4_1, kl5_1, kl6_1, kl7_1, kl8_1, kl9_1, kl10_1, kl11_1, kl12_1, kl13_1, kL_1]
      exact ⟨_, _, _, _, _, _, _, _, _, _, _, _, _, _, _, _, _, _, _, _, _, _, _, _, _, _, _, _, _, _, _, _, _, _, _, _, _, _, _, _, _, _, _, _, _, _, _, _, _, _, _, _, _, _, _, _, _, _, _, _, _, _, _, _, _, _, _, _, _, _, _, _, _, _, _, _, _, _, _, _, _, _, _, _, _, _, _, _, _, _, _, _, _, _, _, _, _, _, _, _, _, _, rfl, by simp only [Q, Bool.and_true, Bool.true_and, Bool.false_and, Bool.and_false, Bool.not_true, Bool.not_false], rfl⟩
    · (repeat refine W_seq ?_); refine W_regionT [] ?_
      simp (maxSteps := 1000000) only [go_sem, Q, ka0_0, ka1_0, ka2_0, ka3_0, ka4_0, ka5_0, ka6_0, ka7_0, ka8_0, ka9_0, ka10_0, ka11_0, ka12_0, ka13_0, kl0_0, kl1_0, kl2_0, kl3_0, kl4_0, kl5_0, kl6_0, kl7_0, kl8_0, kl9_0, kl10_0, kl11_0, kl12_0, kl13_0, kL_0, ka0_1, ka1_1, ka2_1, ka3_1, ka4_1, ka5_1, ka6_1, ka7_1, ka8_1, ka9_1, ka10_1, ka11_1, ka12_1, ka13_1, kl0_1, kl1_1, kl2_1, kl3_1, kl4_1, kl5_1, kl6_1, kl7_1, kl8_1, kl9_1, kl10_1, kl11_1, kl12_1, kl13_1, kL_1]
      exact ⟨_, _, _, _, _, _, _, _, _, _, _, _, _, _, _, _, _, _, _, _, _, _, _, _, _, _, _, _, _, _, _, _, _, _, _, _, _, _, _, _, _, _, _, _, _, _, _, _, _, _, _, _, _, _, _, _, _, _, _, _, _, _, _, _, _, _, _, _, _, _, _, _, _, _, _, _, _, _, _, _, _, _, _, _, _, _, _, _, _, _, _, _, _, _, _, _, _, _, _, _, _, _, rfl, by simp only [Q, Bool.and_true, Bool.true_and, Bool.false_and, Bool.and_false, Bool.not_true, Bool.not_false], rfl⟩
    · (repeat refine W_seq ?_); refine W_regionT [] ?_
      simp (maxSteps := 1000000) only [go_sem, Q, ka0_0, ka1_0, ka2_0, ka3_0, ka4_0, ka5_0, ka6_0, ka7_0, ka8_0, ka9_0, ka10_0, ka11_0, ka12_0, ka13_0, kl0_0, kl1_0, kl2_0, kl3_0, kl4_0, kl5_0, kl6_0, kl7_0, kl8_0, kl9_0, kl10_0, kl11_0, kl12_0, kl13_0, kL_0, ka0_1, ka1_1, ka2_1, ka3_1, ka4_1, ka5_1, ka6_1, ka7_1, ka8_1, ka9_1, ka10_1, ka11_1, ka12_1, ka13_1, kl0_1, kl1_1, kl2_1, kl3_1, kl4_1, kl5_1, kl6_1, kl7_1, kl8_1, kl9_1, kl10_1, kl11_1, kl12_1, kl13_1, kL_1]
      exact ⟨_, _, _, _, _, _, _, _, _, _, _, _, _, _, _, _, _, _, _, _, _, _, _, _, _, _, _, _, _, _, _, _, _, _, _, _, _, _, _, _, _, _, _, _, _, _, _, _, _, _, _, _, _, _, _, _, _, _, _, _, _, _, _, _, _, _, _, _, _, _, _, _, _, _, _, _, _, _, _, _, _, _, _, _, _, _, _, _, _, _, _, _, _, _, _, _, _, _, _, _, _, _, rfl, by simp only [Q, Bool.and_true, Bool.true_and, Bool.false_and, Bool.and_false, Bool.not_true, Bool.not_false], rfl⟩
    · (repeat refine W_seq ?_); refine W_regionT [] ?_
      simp (maxSteps := 1000000) only [go_sem, Q, ka0_0, ka1_0, ka2_0, ka3_0, ka4_0, ka5_0, ka6_0, ka7_0, ka8_0, ka9_0, ka10_0, ka11_0, ka12_0, ka13_0, kl0_0, kl1_0, kl2_0, kl3_0, kl4_0, kl5_0, kl6_0, kl7_0, kl8_0, kl9_0, kl10_0, kl11_0, kl12_0, kl13_0, kL_0, ka0_1, ka1_1, ka2_1, ka3_1, ka4_1, ka5_1, ka6_1, ka7_1, ka8_1, ka9_1, ka10_1, ka11_1, ka12_1, ka13_1, kl0_1, kl1_1, kl2_1, kl3_1, kl4_1, kl5_1, kl6_1, kl7_1, kl8_1, kl9_1, kl10_1, kl11_1, kl12_1, kl13_1, kL_1]
      exact ⟨_, _, _, _, _, _, _, _, _, _, _, _, _, _, _, _, _, _, _, _, _, _, _, _, _, _, _, _, _, _, _, _, _, _, _, _, _, _, _, _, _, _, _, _, _, _, _, _, _, _, _, _, _, _, _, _, _, _, _, _, _, _, _, _, _, _, _, _, _, _, _, _, _, _, _, _, _, _, _, _, _, _, _, _, _, _, _, _, _, _, _, _, _, _, _, _, _, _, _, _, _, _, rfl, by simp only [Q, Bool.and_true, Bool.true_and, Bool.false_and, Bool.and_false, Bool.not_true, Bool.not_false], rfl⟩
    · (repeat refine W_seq ?_); refine W_regionT [] ?_
      simp (maxSteps := 1000000) only [go_sem, Q, ka0_0, ka1_0, ka2_0, ka3_0, ka4_0, ka5_0, ka6_0, ka7_0, ka8_0, ka9_0, ka10_0, ka11_0, ka12_0, ka13_0, kl0_0, kl1_0, kl2_0, kl3_0, kl4_0, kl5_0, kl6_0, kl7_0, kl8_0, kl9_0, kl10_0, kl11_0, kl12_0, kl13_0, kL_0, ka0_1, ka1_1, ka2_1, ka3_1, ka4_1, ka5_1, ka6_1, ka7_1, ka8_1, ka9_1, ka10_1, ka11_1, ka12_1, ka13_1, kl0_1, kl1_1, kl2_1, kl3_1, kl4_1, kl5_1, kl6_1, kl7_1, kl8_1, kl9_1, kl10_1, kl11_1, kl12_1, kl13_1, kL_1]
      exact ⟨_, _, _, _, _, _, _, _, _, _, _, _, _, _, _, _, _, _, _, _, _, _, _, _, _, _, _, _, _, _, _, _, _, _, _, _, _, _, _, _, _, _, _, _, _, _, _, _, _, _, _, _, _, _, _, _, _, _, _, _, _, _, _, _, _, _, _, _, _, _, _, _, _, _, _, _, _, _, _, _, _, _, _, _, _, _, _, _, _, _, _, _, _, _, _, _, _, _, _, _, _, _, rfl, by simp only [Q, Bool.and_true, Bool.true_and, Bool.false_and, Bool.and_false, Bool.not_true, Bool.not_false], rfl⟩
    · (repeat refine W_seq ?_); refine W_regionT [] ?_
      simp (maxSteps := 1000000) only [go_sem, Q, ka0_0, ka1_0, ka2_0, ka3_0, ka4_0, ka5_0, ka6_0, ka7_0, ka8_0, ka9_0, ka10_0, ka11_0, ka12_0, ka13_0, kl0_0, kl1_0, kl2_0, kl3_0, kl4_0, kl5_0, kl6_0, kl7_0, kl8_0, kl9_0, kl10_0, kl11_0, kl12_0, kl13_0, kL_0, ka0_1, ka1_1, ka2_1, ka3_1, ka4_1, ka5_1, ka6_1, ka7_1, ka8_1, ka9_1, ka10_1, ka11_1, ka12_1, ka13_1, kl0_1, kl1_1, kl2_1, kl3_1, kl4_1, kl5_1, kl6_1, kl7_1, kl8_1, kl9_1, kl10_1, kl11_1, kl12_1, kl13_1, kL_1]
      exact ⟨_, _, _, _, _, _, _, _, _, _, _, _, _, _, _, _, _, _, _, _, _, _, _, _, _, _, _, _, _, _, _, _, _, _, _, _, _, _, _, _, _, _, _, _, _, _, _, _, _, _, _, _, _, _, _, _, _, _, _, _, _, _, _, _, _, _, _, _, _, _, _, _, _, _, _, _, _, _, _, _, _, _, _, _, _, _, _, _, _, _, _, _, _, _, _, _, _, _, _, _, _, _, rfl, by simp only [Q, Bool.and_true, Bool.true_and, Bool.false_and, Bool.and_false, Bool.not_true, Bool.not_false], rfl⟩
    · (repeat refine W_seq ?_); refine W_regionT [] ?_
      simp (maxSteps := 1000000) only [go_sem, Q, ka0_0, ka1_0, ka2_0, ka3_0, ka4_0, ka5_0, ka6_0, ka7_0, ka8_0, ka9_0, ka10_0, ka11_0, ka12_0, ka13_0, kl0_0, kl1_0, kl2_0, kl3_0, kl4_0, kl5_0, kl6_0, kl7_0, kl8_0, kl9_0, kl10_0, kl11_0, kl12_0, kl13_0, kL_0, ka0_1, ka1_1, ka2_1, ka3_1, ka4_1, ka5_1, ka6_1, ka7_1, ka8_1, ka9_1, ka10_1, ka11_1, ka12_1, ka13_1, kl0_1, kl1_1, kl2_1, kl3_1, kl4_1, kl5_1, kl6_1, kl7_1, kl8_1, kl9_1, kl10_1, kl11_1, kl12_1, kl13_1, kL_1]
      exact ⟨_, _, _, _, _, _, _, _, _, _, _, _, _, _, _, _, _, _, _, _, _, _, _, _, _, _, _, _, _, _, _, _, _, _, _, _, _, _, _, _, _, _, _, _, _, _, _, _, _, _, _, _, _, _, _, _, _, _, _, _, _, _, _, _, _, _, _, _, _, _, _, _, _, _, _, _, _, _, _, _, _, _, _, _, _, _, _, _, _, _, _, _, _, _, _, _, _, _, _, _, _, _, rfl, by simp only [Q, Bool.and_true, Bool.true_and, Bool.false_and, Bool.and_false, Bool.not_true, Bool.not_false], rfl⟩
    · (repeat refine W_seq ?_); refine W_regionT [] ?_
      simp (maxSteps := 1000000) only [go_sem, Q, ka0_0, ka1_0, ka2_0, ka3_0, ka4_0, ka5_0, ka6_0, ka7_0, ka8_0, ka9_0, ka10_0, ka11_0, ka12_0, ka13_0, kl0_0, kl1_0, kl2_0, kl3_0, kl4_0, kl5_0, kl6_0, kl7_0, kl8_0, kl9_0, kl10_0, kl11_0, kl12_0, kl13_0, kL_0, ka0_1, ka1_1, ka2_1, ka3_1, ka4_1, ka5_1, ka6_1, ka7_1, ka8_1, ka9_1, ka10_1, ka11_1, ka12_1, ka13_1, kl0_1, kl1_1, kl2_1, kl3_1, kl4_1, kl5_1, kl6_1, kl7_1, kl8_1, kl9_1, kl10_1, kl11_1, kl12_1, kl13_1, kL_1]
      exact ⟨_, _, _, _, _, _, _, _, _, _, _, _, _, _, _, _, _, _, _, _, _, _, _, _, _, _, _, _, _, _, _, _, _, _, _, _, _, _, _, _, _, _, _, _, _, _, _, _, _, _, _, _, _, _, _, _, _, _, _, _, _, _, _, _, _, _, _, _, _, _, _, _, _, _, _, _, _, _, _, _, _, _, _, _, _, _, _, _, _, _, _, _, _, _, _, _, _, _, _, _, _, _, rfl, by simp only [Q, Bool.and_true, Bool.true_and, Bool.false_and, Bool.and_false, Bool.not_true, Bool.not_false], rfl⟩
    · (repeat refine W_seq ?_); refine W_regionT [] ?_
      simp (maxSteps := 1000000) only [go_sem, Q, ka0_0, ka1_0, ka2_0, ka3_0, ka4_0, ka5_0, ka6_0, ka7_0, ka8_0, ka9_0, ka10_0, ka11_0, ka12_0, ka13_0, kl0_0, kl1_0, kl2_0, kl3_0, kl4_0, kl5_0, kl6_0, kl7_0, kl8_0, kl9_0, kl10_0, kl11_0, kl12_0, kl13_0, kL_0, ka0_1, ka1_1, ka2_1, ka3_1, ka4_1, ka5_1, ka6_1, ka7_1, ka8_1, ka9_1, ka10_1, ka11_1, ka12_1, ka13_1, kl0_1, kl1_1, kl2_1, kl3_1, kl4_1, kl5_1, kl6_1, kl7_1, kl8_1, kl9_1, kl10_1, kl11_1, kl12_1, kl13_1, kL_1]
      exact ⟨_, _, _, _, _, _, _, _, _, _, _, _, _, _, _, _, _, _, _, _, _, _, _, _, _, _, _, _, _, _, _, _, _, _, _, _, _, _, _, _, _, _, _, _, _, _, _, _, _, _, _, _, _, _, _, _, _, _, _, _, _, _, _, _, _, _, _, _, _, _, _, _, _, _, _, _, _, _, _, _, _, _, _, _, _, _, _, _, _, _, _, _, _, _, _, _, _, _, _, _, _, _, rfl, by simp only [Q, Bool.and_true, Bool.true_and, Bool.false_and, Bool.and_false, Bool.not_true, Bool.not_false], rfl⟩
  refine fun env M' => ?_
  refine exE fun x4 => exE fun x7 => exE fun x8 => exE fun x9 => exE fun x10 => exE fun x11 => exE fun x12 => exE fun x13 => exE fun x14 => exE fun x15 => exE fun x16 => exE fun x17 => exE fun x18 => exE fun x19 => exE fun x20 => exE fun x21 => exE fun x22 => exE fun x23 => exE fun x24 => exE fun x25 => exE fun x26 => exE fun x27 => exE fun x28 => exE fun x29 => exE fun x30 => exE fun x31 => exE fun x32 => exE fun x33 => exE fun x34 => exE fun x35 => exE fun x36 => exE fun x37 => exE fun x38 => exE fun x39 => exE fun x40 => exE fun x41 => exE fun x42 => exE fun x43 => exE fun x44 => exE fun x45 => exE fun x46 => exE fun x47 => exE fun x48 => exE fun x49 => exE fun x50 => exE fun x51 => exE fun x52 => exE fun x53 => exE fun x54 => exE fun x55 => exE fun x56 => exE fun x57 => exE fun x58 => exE fun x59 => exE fun x60 => exE fun x61 => exE fun x62 => exE fun x63 => exE fun x64 => exE fun x65 => exE fun x66 => exE fun x67 => exE fun x68 => exE fun x69 => exE fun x70 => exE fun x71 => exE fun x72 => exE fun x73 => exE fun x74 => exE fun x75 => exE fun x76 => exE fun x77 => exE fun x78 => exE fun x79 => exE fun x80 => exE fun x81 => exE fun x82 => exE fun x83 => exE fun x84 => exE fun x85 => exE fun x86 => exE fun x87 => exE fun x88 => exE fun x89 => exE fun x90 => exE fun x91 => exE fun x92 => exE fun x93 => exE fun x94 => exE fun x95 => exE fun x96 => exE fun x97 => exE fun x98 => exE fun x99 => exE fun x100 => exE fun x101 => exE fun x102 => exE fun x103 => exE fun x104 => exE fun x105 => exE fun x106 => ?_
  rintro ⟨p, rfl, hp1, rfl⟩
  rcases ff7 (decide (a.names = b.names)) (p) (decide (a.off = b.off)) (decide (a.count = b.count)) (decide (a.size = b.size)) ((a.name == b.name)) ((a.data == b.data)) with Q | Q | Q | Q | Q | Q | Q | Q
  · (repeat refine W_seq ?_); refine W_regionT [] ?_
    simp (maxSteps := 1000000) only [go_sem, Q, hd.text, hd2.text, ka0_0, ka1_0, ka2_0, ka3_0, ka4_0, ka5_0, ka6_0, ka7_0, ka8_0, ka9_0, ka10_0, ka11_0, ka12_0, ka13_0, kl0_0, kl1_0, kl2_0, kl3_0, kl4_0, kl5_0, kl6_0, kl7_0, kl8_0, kl9_0, kl10_0, kl11_0, kl12_0, kl13_0, kL_0, ka0_1, ka1_1, ka2_1, ka3_1, ka4_1, ka5_1, ka6_1, ka7_1, ka8_1, ka9_1, ka10_1, ka11_1, ka12_1, ka13_1, kl0_1, kl1_1, kl2_1, kl3_1, kl4_1, kl5_1, kl6_1, kl7_1, kl8_1, kl9_1, kl10_1, kl11_1, kl12_1, kl13_1, kL_1]
    refine W_ret ⟨.inr rfl, _, rfl, rfl, ?_, rfl⟩
    rw [same_eq2, ← hp1]; simp only [Q, Bool.and_true, Bool.true_and, Bool.false_and, Bool.and_false, Bool.not_true, Bool.not_false]; rfl
  · (repeat refine W_seq ?_); refine W_regionT [] ?_
    simp (maxSteps := 1000000) only [go_sem, Q, hd.text, hd2.text, ka0_0, ka1_0, ka2_0, ka3_0, ka4_0, ka5_0, ka6_0, ka7_0, ka8_0, ka9_0, ka10_0, ka11_0, ka12_0, ka13_0, kl0_0, kl1_0, kl2_0, kl3_0, kl4_0, kl5_0, kl6_0, kl7_0, kl8_0, kl9_0, kl10_0, kl11_0, kl12_0, kl13_0, kL_0, ka0_1, ka1_1, ka2_1, ka3_1, ka4_1, ka5_1, ka6_1, ka7_1, ka8_1, ka9_1, ka10_1, ka11_1, ka12_1, ka13_1, kl0_1, kl1_1, kl2_1, kl3_1, kl4_1, kl5_1, kl6_1, kl7_1, kl8_1, kl9_1, kl10_1, kl11_1, kl12_1, kl13_1, kL_1]
    refine W_ret ⟨.inr rfl, _, rfl, rfl, ?_, rfl⟩
    rw [same_eq2, ← hp1]; simp only [Q, Bool.and_true, Bool.true_and, Bool.false_and, Bool.and_false, Bool.not_true, Bool.not_false]; rfl
  · (repeat refine W_seq ?_); refine W_regionT [] ?_
    simp (maxSteps := 1000000) only [go_sem, Q, hd.text, hd2.text, ka0_0, ka1_0, ka2_0, ka3_0, ka4_0, ka5_0, ka6_0, ka7_0, ka8_0, ka9_0, ka10_0, ka11_0, ka12_0, ka13_0, kl0_0, kl1_0, kl2_0, kl3_0, kl4_0, kl5_0, kl6_0, kl7_0, kl8_0, kl9_0, kl10_0, kl11_0, kl12_0, kl13_0, kL_0, ka0_1, ka1_1, ka2_1, ka3_1, ka4_1, ka5_1, ka6_1, ka7_1, ka8_1, ka9_1, ka10_1, ka11_1, ka12_1, ka13_1, kl0_1, kl1_1, kl2_1, kl3_1, kl4_1, kl5_1, kl6_1, kl7_1, kl8_1, kl9_1, kl10_1, kl11_1, kl12_1, kl13_1, kL_1]
    refine W_ret ⟨.inr rfl, _, rfl, rfl, ?_, rfl⟩
    rw [same_eq2, ← hp1]; simp only [Q, Bool.and_true, Bool.true_and, Bool.false_and, Bool.and_false, Bool.not_true, Bool.not_false]; rfl
  · (repeat refine W_seq ?_); refine W_regionT [] ?_
    simp (maxSteps := 1000000) only [go_sem, Q, hd.text, hd2.text, ka0_0, ka1_0, ka2_0, ka3_0, ka4_0, ka5_0, ka6_0, ka7_0, ka8_0, ka9_0, ka10_0, ka11_0, ka12_0, ka13_0, kl0_0, kl1_0, kl2_0, kl3_0, kl4_0, kl5_0, kl6_0, kl7_0, kl8_0, kl9_0, kl10_0, kl11_0, kl12_0, kl13_0, kL_0, ka0_1, ka1_1, ka2_1, ka3_1, ka4_1, ka5_1, ka6_1, ka7_1, ka8_1, ka9_1, ka10_1, ka11_1, ka12_1, ka13_1, kl0_1, kl1_1, kl2_1, kl3_1, kl4_1, kl5_1, kl6_1, kl7_1, kl8_1, kl9_1, kl10_1, kl11_1, kl12_1, kl13_1, kL_1]
    refine W_ret ⟨.inr rfl, _, rfl, rfl, ?_, rfl⟩
    rw [same_eq2, ← hp1]; simp only [Q, Bool.and_true, Bool.true_and, Bool.false_and, Bool.and_false, Bool.not_true, Bool.not_false]; rfl
  · (repeat refine W_seq ?_); refine W_regionT [] ?_
    simp (maxSteps := 1000000) only [go_sem, Q, hd.text, hd2.text, ka0_0, ka1_0, ka2_0, ka3_0, ka4_0, ka5_0, ka6_0, ka7_0, ka8_0, ka9_0, ka10_0, ka11_0, ka12_0, ka13_0, kl0_0, kl1_0, kl2_0, kl3_0, kl4_0, kl5_0, kl6_0, kl7_0, kl8_0, kl9_0, kl10_0, kl11_0, kl12_0, kl13_0, kL_0, ka0_1, ka1_1, ka2_1, ka3_1, ka4_1, ka5_1, ka6_1, ka7_1, ka8_1, ka9_1, ka10_1, ka11_1, ka12_1, ka13_1, kl0_1, kl1_1, kl2_1, kl3_1, kl4_1, kl5_1, kl6_1, kl7_1, kl8_1, kl9_1, kl10_1, kl11_1, kl12_1, kl13_1, kL_1]
    refine W_ret ⟨.inr rfl, _, rfl, rfl, ?_, rfl⟩
    rw [same_eq2, ← hp1]; simp only [Q, Bool.and_true, Bool.true_and, Bool.false_and, Bool.and_false, Bool.not_true, Bool.not_false]; rfl
  · (repeat refine W_seq ?_); refine W_regionT [] ?_
    simp (maxSteps := 1000000) only [go_sem, Q, hd.text, hd2.text, ka0_0, ka1_0, ka2_0, ka3_0, ka4_0, ka5_0, ka6_0, ka7_0, ka8_0, ka9_0, ka10_0, ka11_0, ka12_0, ka13_0, kl0_0, kl1_0, kl2_0, kl3_0, kl4_0, kl5_0, kl6_0, kl7_0, kl8_0, kl9_0, kl10_0, kl11_0, kl12_0, kl13_0, kL_0, ka0_1, ka1_1, ka2_1, ka3_1, ka4_1, ka5_1, ka6_1, ka7_1, ka8_1, ka9_1, ka10_1, ka11_1, ka12_1, ka13_1, kl0_1, kl1_1, kl2_1, kl3_1, kl4_1, kl5_1, kl6_1, kl7_1, kl8_1, kl9_1, kl10_1, kl11_1, kl12_1, kl13_1, kL_1]
    refine W_ret ⟨.inr rfl, _, rfl, rfl, ?_, rfl⟩
    rw [same_eq2, ← hp1]; simp only [Q, Bool.and_true, Bool.true_and, Bool.false_and, Bool.and_false, Bool.not_true, Bool.not_false]; rfl
  · (repeat refine W_seq ?_); refine W_regionT [] ?_
    simp (maxSteps := 1000000) only [go_sem, Q, hd.text, hd2.text, ka0_0, ka1_0, ka2_0, ka3_0, ka4_0, ka5_0, ka6_0, ka7_0, ka8_0, ka9_0, ka10_0, ka11_0, ka12_0, ka13_0, kl0_0, kl1_0, kl2_0, kl3_0, kl4_0, kl5_0, kl6_0, kl7_0, kl8_0, kl9_0, kl10_0, kl11_0, kl12_0, kl13_0, kL_0, ka0_1, ka1_1, ka2_1, ka3_1, ka4_1, ka5_1, ka6_1, ka7_1, ka8_1, ka9_1, ka10_1, ka11_1, ka12_1, ka13_1, kl0_1, kl1_1, kl2_1, kl3_1, kl4_1, kl5_1, kl6_1, kl7_1, kl8_1, kl9_1, kl10_1, kl11_1, kl12_1, kl13_1, kL_1]
    refine W_ret ⟨.inr rfl, _, rfl, rfl, ?_, rfl⟩
    rw [same_eq2, ← hp1]; simp only [Q, Bool.and_true, Bool.true_and, Bool.false_and, Bool.and_false, Bool.not_true, Bool.not_false]; rfl
  · (repeat refine W_seq ?_); refine W_regionT [] ?_
    simp (maxSteps := 1000000) only [go_sem, Q, hd.text, hd2.text, ka0_0, ka1_0, ka2_0, ka3_0, ka4_0, ka5_0, ka6_0, ka7_0, ka8_0, ka9_0, ka10_0, ka11_0, ka12_0, ka13_0, kl0_0, kl1_0, kl2_0, kl3_0, kl4_0, kl5_0, kl6_0, kl7_0, kl8_0, kl9_0, kl10_0, kl11_0, kl12_0, kl13_0, kL_0, ka0_1, ka1_1, ka2_1, ka3_1, ka4_1, ka5_1, ka6_1, ka7_1, ka8_1, ka9_1, ka10_1, ka11_1, ka12_1, ka13_1, kl0_1, kl1_1, kl2_1, kl3_1, kl4_1, kl5_1, kl6_1, kl7_1, kl8_1, kl9_1, kl10_1, kl11_1, kl12_1, kl13_1, kL_1]
    refine W_ret ⟨.inr rfl, _, rfl, rfl, ?_, rfl⟩
    rw [same_eq2, ← hp1]; simp only [Q, Bool.and_true, Bool.true_and, Bool.false_and, Bool.and_false, Bool.not_true, Bool.not_false]; rfl
theorem word94 {n : Int} : AC Try.prog 94 [.int .i64 n] ⟨H, S⟩ (fun v M' => v = .bool (inB n 0 4294967295) ∧ M' = ⟨H, S⟩) := by
  refine AC_of_WE Try.func94 rfl ?_
  simp only [Try.ntmps94, List.length_cons, List.length_nil, List.replicate, List.cons_append, List.nil_append, mem_enter]
  (repeat refine W_seq ?_); refine W_regionT [] ?_
  simp only [go_sem]
  rcases (show 0 ≤ n ∨ ¬ 0 ≤ n by omega) with h | h
  · have hx : decide (0 ≤ n) = true := decide_eq_true h
    (repeat refine W_seq ?_); refine W_regionT [] ?_
    simp only [go_sem, hx]
    refine W_ret ⟨.inr rfl, _, rfl, rfl, ?_, rfl⟩
    unfold inB
    rw [hx, Bool.true_and]; rfl
  · have hx : decide (0 ≤ n) = false := decide_eq_false h
    (repeat refine W_seq ?_); refine W_regionT [] ?_
    simp only [go_sem, hx]
    refine W_ret ⟨.inr rfl, _, rfl, rfl, ?_, rfl⟩
    unfold inB
    rw [hx]; rfl
theorem mayR53 {a : AskR} {vn vd : AV} (hn : TH H vn a.names) (hd : BH H vd a.data) (hl : a.names.length < 1000000) (hs : -9223372036854775808 ≤ a.size ∧ a.size < 9223372036854775808) : AC Try.prog 53 [.agg (a.cells vn vd)] ⟨H, S⟩ (fun v M' => v = .bool a.may ∧ M' = ⟨H, S⟩) := by
  refine AC_of_WE Try.func53 rfl ?_
  simp only [Try.ntmps53, List.length_cons, List.length_nil, List.replicate, List.cons_append, List.nil_append, mem_enter]
  have hn2 := AskR.own_th hn
  have hd2 := AskR.own_bh hd
  have st1 := cells_st (a := a) hn hd
  have st2 := cells_st (a := a.own) hn2 hd2
  have hx : AskV H (.agg (a.cells vn vd)) a := ⟨vn, vd, rfl, hn, hd⟩
  have hx2 : AskV H (.agg (AskR.cells a.own (a.ownN vn) (a.ownD vd))) a.own := ⟨_, _, rfl, hn2, hd2⟩
  have hup := inB_up hs
  (repeat refine W_seq ?_); refine W_regionT [] ?_
  simp only [go_sem, kboxL st1, List.nil_append, List.cons_append, List.length_nil, List.length_cons, Nat.zero_add, Nat.reduceAdd]
  (repeat refine W_seq ?_); refine W_regionT [] ?_
  simp only [go_sem, ka0_0, ka1_0, ka2_0, ka3_0, ka4_0, ka5_0, ka6_0, ka7_0, ka8_0, ka9_0, ka10_0, ka11_0, ka12_0, ka13_0, kl0_0, kl1_0, kl2_0, kl3_0, kl4_0, kl5_0, kl6_0, kl7_0, kl8_0, kl9_0, kl10_0, kl11_0, kl12_0, kl13_0, kL_0]
  refine AT_call rfl rfl (own92 hn hd) fun v M1 hd1 h1 => ?_
  obtain ⟨hv, hM⟩ := h1; subst hv; subst hM
  simp only [go_sem, kallocL, kS_1 st2, List.nil_append, List.cons_append, List.length_nil, List.length_cons, Nat.zero_add, Nat.reduceAdd]
  (repeat refine W_seq ?_); refine W_regionT [] ?_
  simp only [go_sem, ka0_0, ka1_0, ka2_0, ka3_0, ka4_0, ka5_0, ka6_0, ka7_0, ka8_0, ka9_0, ka10_0, ka11_0, ka12_0, ka13_0, kl0_0, kl1_0, kl2_0, kl3_0, kl4_0, kl5_0, kl6_0, kl7_0, kl8_0, kl9_0, kl10_0, kl11_0, kl12_0, kl13_0, kL_0, ka0_1, ka1_1, ka2_1, ka3_1, ka4_1, ka5_1, ka6_1, ka7_1, ka8_1, ka9_1, ka10_1, ka11_1, ka12_1, ka13_1, kl0_1, kl1_1, kl2_1, kl3_1, kl4_1, kl5_1, kl6_1, kl7_1, kl8_1, kl9_1, kl10_1, kl11_1, kl12_1, kl13_1, kL_1]
  refine AT_call rfl rfl (same59 hx2 hx (show a.own.names.length < 1000000 by show (if hasF a.ty 108 = true then a.names else []).length < _; split; exact hl; decide)) fun v M1 hd1 h1 => ?_
  obtain ⟨hv, hM⟩ := h1; subst hv; subst hM
  rw [show decide (a.own = a) = decide (a = a.own) from decide_eq_decide.2 eq_comm]
  simp only [go_sem, ka0_0, ka1_0, ka2_0, ka3_0, ka4_0, ka5_0, ka6_0, ka7_0, ka8_0, ka9_0, ka10_0, ka11_0, ka12_0, ka13_0, kl0_0, kl1_0, kl2_0, kl3_0, kl4_0, kl5_0, kl6_0, kl7_0, kl8_0, kl9_0, kl10_0, kl11_0, kl12_0, kl13_0, kL_0, ka0_1, ka1_1, ka2_1, ka3_1, ka4_1, ka5_1, ka6_1, ka7_1, ka8_1, ka9_1, ka10_1, ka11_1, ka12_1, ka13_1, kl0_1, kl1_1, kl2_1, kl3_1, kl4_1, kl5_1, kl6_1, kl7_1, kl8_1, kl9_1, kl10_1, kl11_1, kl12_1, kl13_1, kL_1]
  rcases ff8 (decide (a = a.own)) (known a.ty) (decide (0 ≤ a.tag)) (decide (a.tag ≤ 65535)) (decide (0 ≤ a.oldtag)) (decide (a.oldtag ≤ 65535)) (decide (0 ≤ a.mode)) (decide (a.mode ≤ 255)) with Q | Q | Q | Q | Q | Q | Q | Q | Q
  · (repeat refine W_seq ?_); refine W_regionT [] ?_
    simp (maxSteps := 1000000) only [go_sem, Q, dlt, fields_none, ka0_0, ka1_0, ka2_0, ka3_0, ka4_0, ka5_0, ka6_0, ka7_0, ka8_0, ka9_0, ka10_0, ka11_0, ka12_0, ka13_0, kl0_0, kl1_0, kl2_0, kl3_0, kl4_0, kl5_0, kl6_0, kl7_0, kl8_0, kl9_0, kl10_0, kl11_0, kl12_0, kl13_0, kL_0, Bool.and_true, Bool.true_and, Bool.false_and, Bool.and_false, Bool.not_true, Bool.not_false]
    have QH := Q
    (repeat refine W_seq ?_)
    refine W_cond (b := true) rfl ?_
    simp only [if_true]
    (repeat refine W_seq ?_); refine W_regionT [] ?_
    simp only [go_sem]
    refine W_ret ⟨.inr rfl, _, rfl, rfl, ?_, rfl⟩
    rw [show a.may = false by unfold AskR.may AskR.head inB; simp only [Q, Bool.and_true, Bool.true_and, Bool.false_and, Bool.and_false, Bool.not_true, Bool.not_false]]; rfl
  · (repeat refine W_seq ?_); refine W_regionT [] ?_
    simp (maxSteps := 1000000) only [go_sem, Q, dlt, fields_none, ka0_0, ka1_0, ka2_0, ka3_0, ka4_0, ka5_0, ka6_0, ka7_0, ka8_0, ka9_0, ka10_0, ka11_0, ka12_0, ka13_0, kl0_0, kl1_0, kl2_0, kl3_0, kl4_0, kl5_0, kl6_0, kl7_0, kl8_0, kl9_0, kl10_0, kl11_0, kl12_0, kl13_0, kL_0, Bool.and_true, Bool.true_and, Bool.false_and, Bool.and_false, Bool.not_true, Bool.not_false]
    refine AT_call rfl rfl (fields93) fun v M1 hd1 h1 => ?_
    obtain ⟨hv, hM⟩ := h1; subst hv; subst hM
    simp (maxSteps := 1000000) only [go_sem, Q, fields_none, dlt, ka0_0, ka1_0, ka2_0, ka3_0, ka4_0, ka5_0, ka6_0, ka7_0, ka8_0, ka9_0, ka10_0, ka11_0, ka12_0, ka13_0, kl0_0, kl1_0, kl2_0, kl3_0, kl4_0, kl5_0, kl6_0, kl7_0, kl8_0, kl9_0, kl10_0, kl11_0, kl12_0, kl13_0, kL_0, Bool.and_true, Bool.true_and, Bool.false_and, Bool.and_false, Bool.not_true, Bool.not_false]
    have QH := Q
    (repeat refine W_seq ?_)
    refine W_cond (b := true) rfl ?_
    simp only [if_true]
    (repeat refine W_seq ?_); refine W_regionT [] ?_
    simp only [go_sem]
    refine W_ret ⟨.inr rfl, _, rfl, rfl, ?_, rfl⟩
    rw [show a.may = false by unfold AskR.may AskR.head inB; simp only [Q, Bool.and_true, Bool.true_and, Bool.false_and, Bool.and_false, Bool.not_true, Bool.not_false]]; rfl
  · (repeat refine W_seq ?_); refine W_regionT [] ?_
    simp (maxSteps := 1000000) only [go_sem, Q, dlt, fields_none, ka0_0, ka1_0, ka2_0, ka3_0, ka4_0, ka5_0, ka6_0, ka7_0, ka8_0, ka9_0, ka10_0, ka11_0, ka12_0, ka13_0, kl0_0, kl1_0, kl2_0, kl3_0, kl4_0, kl5_0, kl6_0, kl7_0, kl8_0, kl9_0, kl10_0, kl11_0, kl12_0, kl13_0, kL_0, Bool.and_true, Bool.true_and, Bool.false_and, Bool.and_false, Bool.not_true, Bool.not_false]
    refine AT_call rfl rfl (fields93) fun v M1 hd1 h1 => ?_
    obtain ⟨hv, hM⟩ := h1; subst hv; subst hM
    simp (maxSteps := 1000000) only [go_sem, Q, fields_none, dlt, ka0_0, ka1_0, ka2_0, ka3_0, ka4_0, ka5_0, ka6_0, ka7_0, ka8_0, ka9_0, ka10_0, ka11_0, ka12_0, ka13_0, kl0_0, kl1_0, kl2_0, kl3_0, kl4_0, kl5_0, kl6_0, kl7_0, kl8_0, kl9_0, kl10_0, kl11_0, kl12_0, kl13_0, kL_0, Bool.and_true, Bool.true_and, Bool.false_and, Bool.and_false, Bool.not_true, Bool.not_false]
    have QH := Q
    (repeat refine W_seq ?_)
    refine W_cond (b := true) rfl ?_
    simp only [if_true]
    (repeat refine W_seq ?_); refine W_regionT [] ?_
    simp only [go_sem]
    refine W_ret ⟨.inr rfl, _, rfl, rfl, ?_, rfl⟩
    rw [show a.may = false by unfold AskR.may AskR.head inB; simp only [Q, Bool.and_true, Bool.true_and, Bool.false_and, Bool.and_false, Bool.not_true, Bool.not_false]]; rfl
  · (repeat refine W_seq ?_); refine W_regionT [] ?_
    simp (maxSteps := 1000000) only [go_sem, Q, dlt, fields_none, ka0_0, ka1_0, ka2_0, ka3_0, ka4_0, ka5_0, ka6_0, ka7_0, ka8_0, ka9_0, ka10_0, ka11_0, ka12_0, ka13_0, kl0_0, kl1_0, kl2_0, kl3_0, kl4_0, kl5_0, kl6_0, kl7_0, kl8_0, kl9_0, kl10_0, kl11_0, kl12_0, kl13_0, kL_0, Bool.and_true, Bool.true_and, Bool.false_and, Bool.and_false, Bool.not_true, Bool.not_false]
    refine AT_call rfl rfl (fields93) fun v M1 hd1 h1 => ?_
    obtain ⟨hv, hM⟩ := h1; subst hv; subst hM
    simp (maxSteps := 1000000) only [go_sem, Q, fields_none, dlt, ka0_0, ka1_0, ka2_0, ka3_0, ka4_0, ka5_0, ka6_0, ka7_0, ka8_0, ka9_0, ka10_0, ka11_0, ka12_0, ka13_0, kl0_0, kl1_0, kl2_0, kl3_0, kl4_0, kl5_0, kl6_0, kl7_0, kl8_0, kl9_0, kl10_0, kl11_0, kl12_0, kl13_0, kL_0, Bool.and_true, Bool.true_and, Bool.false_and, Bool.and_false, Bool.not_true, Bool.not_false]
    have QH := Q
    (repeat refine W_seq ?_)
    refine W_cond (b := true) rfl ?_
    simp only [if_true]
    (repeat refine W_seq ?_); refine W_regionT [] ?_
    simp only [go_sem]
    refine W_ret ⟨.inr rfl, _, rfl, rfl, ?_, rfl⟩
    rw [show a.may = false by unfold AskR.may AskR.head inB; simp only [Q, Bool.and_true, Bool.true_and, Bool.false_and, Bool.and_false, Bool.not_true, Bool.not_false]]; rfl
  · (repeat refine W_seq ?_); refine W_regionT [] ?_
    simp (maxSteps := 1000000) only [go_sem, Q, dlt, fields_none, ka0_0, ka1_0, ka2_0, ka3_0, ka4_0, ka5_0, ka6_0, ka7_0, ka8_0, ka9_0, ka10_0, ka11_0, ka12_0, ka13_0, kl0_0, kl1_0, kl2_0, kl3_0, kl4_0, kl5_0, kl6_0, kl7_0, kl8_0, kl9_0, kl10_0, kl11_0, kl12_0, kl13_0, kL_0, Bool.and_true, Bool.true_and, Bool.false_and, Bool.and_false, Bool.not_true, Bool.not_false]
    refine AT_call rfl rfl (fields93) fun v M1 hd1 h1 => ?_
    obtain ⟨hv, hM⟩ := h1; subst hv; subst hM
    simp (maxSteps := 1000000) only [go_sem, Q, fields_none, dlt, ka0_0, ka1_0, ka2_0, ka3_0, ka4_0, ka5_0, ka6_0, ka7_0, ka8_0, ka9_0, ka10_0, ka11_0, ka12_0, ka13_0, kl0_0, kl1_0, kl2_0, kl3_0, kl4_0, kl5_0, kl6_0, kl7_0, kl8_0, kl9_0, kl10_0, kl11_0, kl12_0, kl13_0, kL_0, Bool.and_true, Bool.true_and, Bool.false_and, Bool.and_false, Bool.not_true, Bool.not_false]
    have QH := Q
    (repeat refine W_seq ?_)
    refine W_cond (b := true) rfl ?_
    simp only [if_true]
    (repeat refine W_seq ?_); refine W_regionT [] ?_
    simp only [go_sem]
    refine W_ret ⟨.inr rfl, _, rfl, rfl, ?_, rfl⟩
    rw [show a.may = false by unfold AskR.may AskR.head inB; simp only [Q, Bool.and_true, Bool.true_and, Bool.false_and, Bool.and_false, Bool.not_true, Bool.not_false]]; rfl
  · (repeat refine W_seq ?_); refine W_regionT [] ?_
    simp (maxSteps := 1000000) only [go_sem, Q, dlt, fields_none, ka0_0, ka1_0, ka2_0, ka3_0, ka4_0, ka5_0, ka6_0, ka7_0, ka8_0, ka9_0, ka10_0, ka11_0, ka12_0, ka13_0, kl0_0, kl1_0, kl2_0, kl3_0, kl4_0, kl5_0, kl6_0, kl7_0, kl8_0, kl9_0, kl10_0, kl11_0, kl12_0, kl13_0, kL_0, Bool.and_true, Bool.true_and, Bool.false_and, Bool.and_false, Bool.not_true, Bool.not_false]
    refine AT_call rfl rfl (fields93) fun v M1 hd1 h1 => ?_
    obtain ⟨hv, hM⟩ := h1; subst hv; subst hM
    simp (maxSteps := 1000000) only [go_sem, Q, fields_none, dlt, ka0_0, ka1_0, ka2_0, ka3_0, ka4_0, ka5_0, ka6_0, ka7_0, ka8_0, ka9_0, ka10_0, ka11_0, ka12_0, ka13_0, kl0_0, kl1_0, kl2_0, kl3_0, kl4_0, kl5_0, kl6_0, kl7_0, kl8_0, kl9_0, kl10_0, kl11_0, kl12_0, kl13_0, kL_0, Bool.and_true, Bool.true_and, Bool.false_and, Bool.and_false, Bool.not_true, Bool.not_false]
    have QH := Q
    (repeat refine W_seq ?_)
    refine W_cond (b := true) rfl ?_
    simp only [if_true]
    (repeat refine W_seq ?_); refine W_regionT [] ?_
    simp only [go_sem]
    refine W_ret ⟨.inr rfl, _, rfl, rfl, ?_, rfl⟩
    rw [show a.may = false by unfold AskR.may AskR.head inB; simp only [Q, Bool.and_true, Bool.true_and, Bool.false_and, Bool.and_false, Bool.not_true, Bool.not_false]]; rfl
  · (repeat refine W_seq ?_); refine W_regionT [] ?_
    simp (maxSteps := 1000000) only [go_sem, Q, dlt, fields_none, ka0_0, ka1_0, ka2_0, ka3_0, ka4_0, ka5_0, ka6_0, ka7_0, ka8_0, ka9_0, ka10_0, ka11_0, ka12_0, ka13_0, kl0_0, kl1_0, kl2_0, kl3_0, kl4_0, kl5_0, kl6_0, kl7_0, kl8_0, kl9_0, kl10_0, kl11_0, kl12_0, kl13_0, kL_0, Bool.and_true, Bool.true_and, Bool.false_and, Bool.and_false, Bool.not_true, Bool.not_false]
    refine AT_call rfl rfl (fields93) fun v M1 hd1 h1 => ?_
    obtain ⟨hv, hM⟩ := h1; subst hv; subst hM
    simp (maxSteps := 1000000) only [go_sem, Q, fields_none, dlt, ka0_0, ka1_0, ka2_0, ka3_0, ka4_0, ka5_0, ka6_0, ka7_0, ka8_0, ka9_0, ka10_0, ka11_0, ka12_0, ka13_0, kl0_0, kl1_0, kl2_0, kl3_0, kl4_0, kl5_0, kl6_0, kl7_0, kl8_0, kl9_0, kl10_0, kl11_0, kl12_0, kl13_0, kL_0, Bool.and_true, Bool.true_and, Bool.false_and, Bool.and_false, Bool.not_true, Bool.not_false]
    have QH := Q
    (repeat refine W_seq ?_)
    refine W_cond (b := true) rfl ?_
    simp only [if_true]
    (repeat refine W_seq ?_); refine W_regionT [] ?_
    simp only [go_sem]
    refine W_ret ⟨.inr rfl, _, rfl, rfl, ?_, rfl⟩
    rw [show a.may = false by unfold AskR.may AskR.head inB; simp only [Q, Bool.and_true, Bool.true_and, Bool.false_and, Bool.and_false, Bool.not_true, Bool.not_false]]; rfl
  · (repeat refine W_seq ?_); refine W_regionT [] ?_
    simp (maxSteps := 1000000) only [go_sem, Q, dlt, fields_none, ka0_0, ka1_0, ka2_0, ka3_0, ka4_0, ka5_0, ka6_0, ka7_0, ka8_0, ka9_0, ka10_0, ka11_0, ka12_0, ka13_0, kl0_0, kl1_0, kl2_0, kl3_0, kl4_0, kl5_0, kl6_0, kl7_0, kl8_0, kl9_0, kl10_0, kl11_0, kl12_0, kl13_0, kL_0, Bool.and_true, Bool.true_and, Bool.false_and, Bool.and_false, Bool.not_true, Bool.not_false]
    refine AT_call rfl rfl (fields93) fun v M1 hd1 h1 => ?_
    obtain ⟨hv, hM⟩ := h1; subst hv; subst hM
    simp (maxSteps := 1000000) only [go_sem, Q, fields_none, dlt, ka0_0, ka1_0, ka2_0, ka3_0, ka4_0, ka5_0, ka6_0, ka7_0, ka8_0, ka9_0, ka10_0, ka11_0, ka12_0, ka13_0, kl0_0, kl1_0, kl2_0, kl3_0, kl4_0, kl5_0, kl6_0, kl7_0, kl8_0, kl9_0, kl10_0, kl11_0, kl12_0, kl13_0, kL_0, Bool.and_true, Bool.true_and, Bool.false_and, Bool.and_false, Bool.not_true, Bool.not_false]
    have QH := Q
    (repeat refine W_seq ?_)
    refine W_cond (b := true) rfl ?_
    simp only [if_true]
    (repeat refine W_seq ?_); refine W_regionT [] ?_
    simp only [go_sem]
    refine W_ret ⟨.inr rfl, _, rfl, rfl, ?_, rfl⟩
    rw [show a.may = false by unfold AskR.may AskR.head inB; simp only [Q, Bool.and_true, Bool.true_and, Bool.false_and, Bool.and_false, Bool.not_true, Bool.not_false]]; rfl
  · (repeat refine W_seq ?_); refine W_regionT [] ?_
    simp (maxSteps := 1000000) only [go_sem, Q, dlt, fields_none, ka0_0, ka1_0, ka2_0, ka3_0, ka4_0, ka5_0, ka6_0, ka7_0, ka8_0, ka9_0, ka10_0, ka11_0, ka12_0, ka13_0, kl0_0, kl1_0, kl2_0, kl3_0, kl4_0, kl5_0, kl6_0, kl7_0, kl8_0, kl9_0, kl10_0, kl11_0, kl12_0, kl13_0, kL_0, Bool.and_true, Bool.true_and, Bool.false_and, Bool.and_false, Bool.not_true, Bool.not_false]
    refine AT_call rfl rfl (fields93) fun v M1 hd1 h1 => ?_
    obtain ⟨hv, hM⟩ := h1; subst hv; subst hM
    simp (maxSteps := 1000000) only [go_sem, Q, fields_none, dlt, ka0_0, ka1_0, ka2_0, ka3_0, ka4_0, ka5_0, ka6_0, ka7_0, ka8_0, ka9_0, ka10_0, ka11_0, ka12_0, ka13_0, kl0_0, kl1_0, kl2_0, kl3_0, kl4_0, kl5_0, kl6_0, kl7_0, kl8_0, kl9_0, kl10_0, kl11_0, kl12_0, kl13_0, kL_0, Bool.and_true, Bool.true_and, Bool.false_and, Bool.and_false, Bool.not_true, Bool.not_false]
    have QH := Q
    (repeat refine W_seq ?_)
    refine W_cond (b := false) rfl ?_
    simp only [Bool.false_eq_true, if_false]
    refine W_skip ?_
    simp only [go_sem]
    (repeat refine W_seq ?_)
    refine W_mid (fun env M' => ∃ (x2 x3 x4 x6 x7 x8 x9 x10 x11 x12 x13 x14 x15 x16 x17 x18 x19 x20 x21 x22 x23 x24 x25 x26 x27 x28 x29 x30 x31 x32 x33 x34 x35 x36 x37 x38 x39 x40 x41 x42 x43 x44 x45 x46 x47 x48 x49 x50 x51 x52 x53 x54 x55 x56 x57 x58 x59 x60 x61 x62 x63 x64 x65 x66 x67 x68 x69 x70 x71 x72 x73 x74 x75 x76 x77 x78 x79 x80 x81 x82 x83 x84 x85 x86 x87 x88 x89 x90 x91 x92 x93 x94 x95 x96 x97 x98 x99 x100 x101 x102 x103 x104 x105 x106 x107 x108 x109 x110 x111 x112 x113 x114 x115 x116 x117 x118 x119 x120 x121 x122 : AV) (p : Bool), env = [.agg (a.cells vn vd), .ptr ⟨S.length + 1, 0, 0⟩, x2, x3, x4, .bool p, x6, x7, x8, x9, x10, x11, x12, x13, x14, x15, x16, x17, x18, x19, x20, x21, x22, x23, x24, x25, x26, x27, x28, x29, x30, x31, x32, x33, x34, x35, x36, x37, x38, x39, x40, x41, x42, x43, x44, x45, x46, x47, x48, x49, x50, x51, x52, x53, x54, x55, x56, x57, x58, x59, x60, x61, x62, x63, x64, x65, x66, x67, x68, x69, x70, x71, x72, x73, x74, x75, x76, x77, x78, x79, x80, x81, x82, x83, x84, x85, x86, x87, x88, x89, x90, x91, x92, x93, x94, x95, x96, x97, x98, x99, x100, x101, x102, x103, x104, x105, x106, x107, x108, x109, x110, x111, x112, x113, x114, x115, x116, x117, x118, x119, x120, x121, x122] ∧ p = (inB a.fid 0 4294967295 && inB a.newfid 0 4294967295 && inB a.msize 0 4294967295 && inB a.perm 0 4294967295 && inB a.count 0 4294967295 && inB a.size (-1) 4294967294) ∧ M' = ⟨H, [Block.row ⟨72, 14, AskR.cells a vn vd, false, false⟩, Block.row ⟨72, 14, AskR.cells a.own (a.ownN vn) (a.ownD vd), false, false⟩] :: S⟩) ?_ ?_
    · rcases ff6 (inB a.fid 0 4294967295) (inB a.newfid 0 4294967295) (inB a.msize 0 4294967295) (inB a.perm 0 4294967295) (inB a.count 0 4294967295) (inB a.size (-1) 4294967294) with Q | Q | Q | Q | Q | Q | Q
      · (repeat refine W_seq ?_); refine W_regionT [] ?_
        simp (maxSteps := 1000000) only [go_sem, Q, hup, ka0_0, ka1_0, ka2_0, ka3_0, ka4_0, ka5_0, ka6_0, ka7_0, ka8_0, ka9_0, ka10_0, ka11_0, ka12_0, ka13_0, kl0_0, kl1_0, kl2_0, kl3_0, kl4_0, kl5_0, kl6_0, kl7_0, kl8_0, kl9_0, kl10_0, kl11_0, kl12_0, kl13_0, kL_0, Bool.and_true, Bool.true_and, Bool.false_and, Bool.and_false, Bool.not_true, Bool.not_false]
        refine AT_call rfl rfl (word94) fun v M1 hd1 h1 => ?_
        obtain ⟨hv, hM⟩ := h1; subst hv; subst hM
        simp (maxSteps := 1000000) only [go_sem, Q, ka0_0, ka1_0, ka2_0, ka3_0, ka4_0, ka5_0, ka6_0, ka7_0, ka8_0, ka9_0, ka10_0, ka11_0, ka12_0, ka13_0, kl0_0, kl1_0, kl2_0, kl3_0, kl4_0, kl5_0, kl6_0, kl7_0, kl8_0, kl9_0, kl10_0, kl11_0, kl12_0, kl13_0, kL_0, hup, dlt, Bool.and_true, Bool.true_and, Bool.false_and, Bool.and_false, Bool.not_true, Bool.not_false]
        exact ⟨_, _, _, _, _, _, _, _, _, _, _, _, _, _, _, _, _, _, _, _, _, _, _, _, _, _, _, _, _, _, _, _, _, _, _, _, _, _, _, _, _, _, _, _, _, _, _, _, _, _, _, _, _, _, _, _, _, _, _, _, _, _, _, _, _, _, _, _, _, _, _, _, _, _, _, _, _, _, _, _, _, _, _, _, _, _, _, _, _, _, _, _, _, _, _, _, _, _, _, _, _, _, _, _, _, _, _, _, _, _, _, _, _, _, _, _, _, _, _, _, _, rfl, by simp only [Q, Bool.and_true, Bool.true_and, Bool.false_and, Bool.and_false, Bool.not_true, Bool.not_false], rfl⟩
      · (repeat refine W_seq ?_); refine W_regionT [] ?_
        simp (maxSteps := 1000000) only [go_sem, Q, hup, ka0_0, ka1_0, ka2_0, ka3_0, ka4_0, ka5_0, ka6_0, ka7_0, ka8_0, ka9_0, ka10_0, ka11_0, ka12_0, ka13_0, kl0_0, kl1_0, kl2_0, kl3_0, kl4_0, kl5_0, kl6_0, kl7_0, kl8_0, kl9_0, kl10_0, kl11_0, kl12_0, kl13_0, kL_0, Bool.and_true, Bool.true_and, Bool.false_and, Bool.and_false, Bool.not_true, Bool.not_false]
        refine AT_call rfl rfl (word94) fun v M1 hd1 h1 => ?_
        obtain ⟨hv, hM⟩ := h1; subst hv; subst hM
        simp (maxSteps := 1000000) only [go_sem, Q, ka0_0, ka1_0, ka2_0, ka3_0, ka4_0, ka5_0, ka6_0, ka7_0, ka8_0, ka9_0, ka10_0, ka11_0, ka12_0, ka13_0, kl0_0, kl1_0, kl2_0, kl3_0, kl4_0, kl5_0, kl6_0, kl7_0, kl8_0, kl9_0, kl10_0, kl11_0, kl12_0, kl13_0, kL_0, hup, dlt, Bool.and_true, Bool.true_and, Bool.false_and, Bool.and_false, Bool.not_true, Bool.not_false]
        refine AT_call rfl rfl (word94) fun v M1 hd1 h1 => ?_
        obtain ⟨hv, hM⟩ := h1; subst hv; subst hM
        simp (maxSteps := 1000000) only [go_sem, Q, ka0_0, ka1_0, ka2_0, ka3_0, ka4_0, ka5_0, ka6_0, ka7_0, ka8_0, ka9_0, ka10_0, ka11_0, ka12_0, ka13_0, kl0_0, kl1_0, kl2_0, kl3_0, kl4_0, kl5_0, kl6_0, kl7_0, kl8_0, kl9_0, kl10_0, kl11_0, kl12_0, kl13_0, kL_0, hup, dlt, Bool.and_true, Bool.true_and, Bool.false_and, Bool.and_false, Bool.not_true, Bool.not_false]
        exact ⟨_, _, _, _, _, _, _, _, _, _, _, _, _, _, _, _, _, _, _, _, _, _, _, _, _, _, _, _, _, _, _, _, _, _, _, _, _, _, _, _, _, _, _, _, _, _, _, _, _, _, _, _, _, _, _, _, _, _, _, _, _, _, _, _, _, _, _, _, _, _, _, _, _, _, _, _, _, _, _, _, _, _, _, _, _, _, _, _, _, _, _, _, _, _, _, _, _, _, _, _, _, _, _, _, _, _, _, _, _, _, _, _, _, _, _, _, _, _, _, _, _, rfl, by simp only [Q, Bool.and_true, Bool.true_and, Bool.false_and, Bool.and_false, Bool.not_true, Bool.not_false], rfl⟩
      · (repeat refine W_seq ?_); refine W_regionT [] ?_
        simp (maxSteps := 1000000) only [go_sem, Q, hup, ka0_0, ka1_0, ka2_0, ka3_0, ka4_0, ka5_0, ka6_0, ka7_0, ka8_0, ka9_0, ka10_0, ka11_0, ka12_0, ka13_0, kl0_0, kl1_0, kl2_0, kl3_0, kl4_0, kl5_0, kl6_0, kl7_0, kl8_0, kl9_0, kl10_0, kl11_0, kl12_0, kl13_0, kL_0, Bool.and_true, Bool.true_and, Bool.false_and, Bool.and_false, Bool.not_true, Bool.not_false]
        refine AT_call rfl rfl (word94) fun v M1 hd1 h1 => ?_
        obtain ⟨hv, hM⟩ := h1; subst hv; subst hM
        simp (maxSteps := 1000000) only [go_sem, Q, ka0_0, ka1_0, ka2_0, ka3_0, ka4_0, ka5_0, ka6_0, ka7_0, ka8_0, ka9_0, ka10_0, ka11_0, ka12_0, ka13_0, kl0_0, kl1_0, kl2_0, kl3_0, kl4_0, kl5_0, kl6_0, kl7_0, kl8_0, kl9_0, kl10_0, kl11_0, kl12_0, kl13_0, kL_0, hup, dlt, Bool.and_true, Bool.true_and, Bool.false_and, Bool.and_false, Bool.not_true, Bool.not_false]
        refine AT_call rfl rfl (word94) fun v M1 hd1 h1 => ?_
        obtain ⟨hv, hM⟩ := h1; subst hv; subst hM
        simp (maxSteps := 1000000) only [go_sem, Q, ka0_0, ka1_0, ka2_0, ka3_0, ka4_0, ka5_0, ka6_0, ka7_0, ka8_0, ka9_0, ka10_0, ka11_0, ka12_0, ka13_0, kl0_0, kl1_0, kl2_0, kl3_0, kl4_0, kl5_0, kl6_0, kl7_0, kl8_0, kl9_0, kl10_0, kl11_0, kl12_0, kl13_0, kL_0, hup, dlt, Bool.and_true, Bool.true_and, Bool.false_and, Bool.and_false, Bool.not_true, Bool.not_false]
        refine AT_call rfl rfl (word94) fun v M1 hd1 h1 => ?_
        obtain ⟨hv, hM⟩ := h1; subst hv; subst hM
        simp (maxSteps := 1000000) only [go_sem, Q, ka0_0, ka1_0, ka2_0, ka3_0, ka4_0, ka5_0, ka6_0, ka7_0, ka8_0, ka9_0, ka10_0, ka11_0, ka12_0, ka13_0, kl0_0, kl1_0, kl2_0, kl3_0, kl4_0, kl5_0, kl6_0, kl7_0, kl8_0, kl9_0, kl10_0, kl11_0, kl12_0, kl13_0, kL_0, hup, dlt, Bool.and_true, Bool.true_and, Bool.false_and, Bool.and_false, Bool.not_true, Bool.not_false]
        exact ⟨_, _, _, _, _, _, _, _, _, _, _, _, _, _, _, _, _, _, _, _, _, _, _, _, _, _, _, _, _, _, _, _, _, _, _, _, _, _, _, _, _, _, _, _, _, _, _, _, _, _, _, _, _, _, _, _, _, _, _, _, _, _, _, _, _, _, _, _, _, _, _, _, _, _, _, _, _, _, _, _, _, _, _, _, _, _, _, _, _, _, _, _, _, _, _, _, _, _, _, _, _, _, _, _, _, _, _, _, _, _, _, _, _, _, _, _, _, _, _, _, _, rfl, by simp only [Q, Bool.and_true, Bool.true_and, Bool.false_and, Bool.and_false, Bool.not_true, Bool.not_false], rfl⟩
      · (repeat refine W_seq ?_); refine W_regionT [] ?_
        simp (maxSteps := 1000000) only [go_sem, Q, hup, ka0_0, ka1_0, ka2_0, ka3_0, ka4_0, ka5_0, ka6_0, ka7_0, ka8_0, ka9_0, ka10_0, ka11_0, ka12_0, ka13_0, kl0_0, kl1_0, kl2_0, kl3_0, kl4_0, kl5_0, kl6_0, kl7_0, kl8_0, kl9_0, kl10_0, kl11_0, kl12_0, kl13_0, kL_0, Bool.and_true, Bool.true_and, Bool.false_and, Bool.and_false, Bool.not_true, Bool.not_false]
        refine AT_call rfl rfl (word94) fun v M1 hd1 h1 => ?_
        obtain ⟨hv, hM⟩ := h1; subst hv; subst hM
        simp (maxSteps := 1000000) only [go_sem, Q, ka0_0, ka1_0, ka2_0, ka3_0, ka4_0, ka5_0, ka6_0, ka7_0, ka8_0, ka9_0, ka10_0, ka11_0, ka12_0, ka13_0, kl0_0, kl1_0, kl2_0, kl3_0, kl4_0, kl5_0, kl6_0, kl7_0, kl8_0, kl9_0, kl10_0, kl11_0, kl12_0, kl13_0, kL_0, hup, dlt, Bool.and_true, Bool.true_and, Bool.false_and, Bool.and_false, Bool.not_true, Bool.not_false]
        refine AT_call rfl rfl (word94) fun v M1 hd1 h1 => ?_
        obtain ⟨hv, hM⟩ := h1; subst hv; subst hM
        simp (maxSteps := 1000000) only [go_sem, Q, ka0_0, ka1_0, ka2_0, ka3_0, ka4_0, ka5_0, ka6_0, ka7_0, ka8_0, ka9_0, ka10_0, ka11_0, ka12_0, ka13_0, kl0_0, kl1_0, kl2_0, kl3_0, kl4_0, kl5_0, kl6_0, kl7_0, kl8_0, kl9_0, kl10_0, kl11_0, kl12_0, kl13_0, kL_0, hup, dlt, Bool.and_true, Bool.true_and, Bool.false_and, Bool.and_false, Bool.not_true, Bool.not_false]
        refine AT_call rfl rfl (word94) fun v M1 hd1 h1 => ?_
        obtain ⟨hv, hM⟩ := h1; subst hv; subst hM
        simp (maxSteps := 1000000) only [go_sem, Q, ka0_0, ka1_0, ka2_0, ka3_0, ka4_0, ka5_0, ka6_0, ka7_0, ka8_0, ka9_0, ka10_0, ka11_0, ka12_0, ka13_0, kl0_0, kl1_0, kl2_0, kl3_0, kl4_0, kl5_0, kl6_0, kl7_0, kl8_0, kl9_0, kl10_0, kl11_0, kl12_0, kl13_0, kL_0, hup, dlt, Bool.and_true, Bool.true_and, Bool.false_and, Bool.and_false, Bool.not_true, Bool.not_false]
        refine AT_call rfl rfl (word94) fun v M1 hd1 h1 => ?_
        obtain ⟨hv, hM⟩ := h1; subst hv; subst hM
        simp (maxSteps := 1000000) only [go_sem, Q, ka0_0, ka1_0, ka2_0, ka3_0, ka4_0, ka5_0, ka6_0, ka7_0, ka8_0, ka9_0, ka10_0, ka11_0, ka12_0, ka13_0, kl0_0, kl1_0, kl2_0, kl3_0, kl4_0, kl5_0, kl6_0, kl7_0, kl8_0, kl9_0, kl10_0, kl11_0, kl12_0, kl13_0, kL_0, hup, dlt, Bool.and_true, Bool.true_and, Bool.false_and, Bool.and_false, Bool.not_true, Bool.not_false]
        exact ⟨_, _, _, _, _, _, _, _, _, _, _, _, _, _, _, _, _, _, _, _, _, _, _, _, _, _, _, _, _, _, _, _, _, _, _, _, _, _, _, _, _, _, _, _, _, _, _, _, _, _, _, _, _, _, _, _, _, _, _, _, _, _, _, _, _, _, _, _, _, _, _, _, _, _, _, _, _, _, _, _, _, _, _, _, _, _, _, _, _, _, _, _, _, _, _, _, _, _, _, _, _, _, _, _, _, _, _, _, _, _, _, _, _, _, _, _, _, _, _, _, _, rfl, by simp only [Q, Bool.and_true, Bool.true_and, Bool.false_and, Bool.and_false, Bool.not_true, Bool.not_false], rfl⟩
      · (repeat refine W_seq ?_); refine W_regionT [] ?_
        simp (maxSteps := 1000000) only [go_sem, Q, hup, ka0_0, ka1_0, ka2_0, ka3_0, ka4_0, ka5_0, ka6_0, ka7_0, ka8_0, ka9_0, ka10_0, ka11_0, ka12_0, ka13_0, kl0_0, kl1_0, kl2_0, kl3_0, kl4_0, kl5_0, kl6_0, kl7_0, kl8_0, kl9_0, kl10_0, kl11_0, kl12_0, kl13_0, kL_0, Bool.and_true, Bool.true_and, Bool.false_and, Bool.and_false, Bool.not_true, Bool.not_false]
        refine AT_call rfl rfl (word94) fun v M1 hd1 h1 => ?_
        obtain ⟨hv, hM⟩ := h1; subst hv; subst hM
        simp (maxSteps := 1000000) only [go_sem, Q, ka0_0, ka1_0, ka2_0, ka3_0, ka4_0, ka5_0, ka6_0, ka7_0, ka8_0, ka9_0, ka10_0, ka11_0, ka12_0, ka13_0, kl0_0, kl1_0, kl2_0, kl3_0, kl4_0, kl5_0, kl6_0, kl7_0, kl8_0, kl9_0, kl10_0, kl11_0, kl12_0, kl13_0, kL_0, hup, dlt, Bool.and_true, Bool.true_and, Bool.false_and, Bool.and_false, Bool.not_true, Bool.not_false]
        refine AT_call rfl rfl (word94) fun v M1 hd1 h1 => ?_
        obtain ⟨hv, hM⟩ := h1; subst hv; subst hM
        simp (maxSteps := 1000000) only [go_sem, Q, ka0_0, ka1_0, ka2_0, ka3_0, ka4_0, ka5_0, ka6_0, ka7_0, ka8_0, ka9_0, ka10_0, ka11_0, ka12_0, ka13_0, kl0_0, kl1_0, kl2_0, kl3_0, kl4_0, kl5_0, kl6_0, kl7_0, kl8_0, kl9_0, kl10_0, kl11_0, kl12_0, kl13_0, kL_0, hup, dlt, Bool.and_true, Bool.true_and, Bool.false_and, Bool.and_false, Bool.not_true, Bool.not_false]
        refine AT_call rfl rfl (word94) fun v M1 hd1 h1 => ?_
        obtain ⟨hv, hM⟩ := h1; subst hv; subst hM
        simp (maxSteps := 1000000) only [go_sem, Q, ka0_0, ka1_0, ka2_0, ka3_0, ka4_0, ka5_0, ka6_0, ka7_0, ka8_0, ka9_0, ka10_0, ka11_0, ka12_0, ka13_0, kl0_0, kl1_0, kl2_0, kl3_0, kl4_0, kl5_0, kl6_0, kl7_0, kl8_0, kl9_0, kl10_0, kl11_0, kl12_0, kl13_0, kL_0, hup, dlt, Bool.and_true, Bool.true_and, Bool.false_and, Bool.and_false, Bool.not_true, Bool.not_false]
        refine AT_call rfl rfl (word94) fun v M1 hd1 h1 => ?_
        obtain ⟨hv, hM⟩ := h1; subst hv; subst hM
        simp (maxSteps := 1000000) only [go_sem, Q, ka0_0, ka1_0, ka2_0, ka3_0, ka4_0, ka5_0, ka6_0, ka7_0, ka8_0, ka9_0, ka10_0, ka11_0, ka12_0, ka13_0, kl0_0, kl1_0, kl2_0, kl3_0, kl4_0, kl5_0, kl6_0, kl7_0, kl8_0, kl9_0, kl10_0, kl11_0, kl12_0, kl13_0, kL_0, hup, dlt, Bool.and_true, Bool.true_and, Bool.false_and, Bool.and_false, Bool.not_true, Bool.not_false]
        refine AT_call rfl rfl (word94) fun v M1 hd1 h1 => ?_
        obtain ⟨hv, hM⟩ := h1; subst hv; subst hM
        simp (maxSteps := 1000000) only [go_sem, Q, ka0_0, ka1_0, ka2_0, ka3_0, ka4_0, ka5_0, ka6_0, ka7_0, ka8_0, ka9_0, ka10_0, ka11_0, ka12_0, ka13_0, kl0_0, kl1_0, kl2_0, kl3_0, kl4_0, kl5_0, kl6_0, kl7_0, kl8_0, kl9_0, kl10_0, kl11_0, kl12_0, kl13_0, kL_0, hup, dlt, Bool.and_true, Bool.true_and, Bool.false_and, Bool.and_false, Bool.not_true, Bool.not_false]
        exact ⟨_, _, _, _, _, _, _, _, _, _, _, _, _, _, _, _, _, _, _, _, _, _, _, _, _, _, _, _, _, _, _, _, _, _, _, _, _, _, _, _, _, _, _, _, _, _, _, _, _, _, _, _, _, _, _, _, _, _, _, _, _, _, _, _, _, _, _, _, _, _, _, _, _, _, _, _, _, _, _, _, _, _, _, _, _, _, _, _, _, _, _, _, _, _, _, _, _, _, _, _, _, _, _, _, _, _, _, _, _, _, _, _, _, _, _, _, _, _, _, _, _, rfl, by simp only [Q, Bool.and_true, Bool.true_and, Bool.false_and, Bool.and_false, Bool.not_true, Bool.not_false], rfl⟩
      · (repeat refine W_seq ?_); refine W_regionT [] ?_
        simp (maxSteps := 1000000) only [go_sem, Q, hup, ka0_0, ka1_0, ka2_0, ka3_0, ka4_0, ka5_0, ka6_0, ka7_0, ka8_0, ka9_0, ka10_0, ka11_0, ka12_0, ka13_0, kl0_0, kl1_0, kl2_0, kl3_0, kl4_0, kl5_0, kl6_0, kl7_0, kl8_0, kl9_0, kl10_0, kl11_0, kl12_0, kl13_0, kL_0, Bool.and_true, Bool.true_and, Bool.false_and, Bool.and_false, Bool.not_true, Bool.not_false]
        refine AT_call rfl rfl (word94) fun v M1 hd1 h1 => ?_
        obtain ⟨hv, hM⟩ := h1; subst hv; subst hM
        simp (maxSteps := 1000000) only [go_sem, Q, ka0_0, ka1_0, ka2_0, ka3_0, ka4_0, ka5_0, ka6_0, ka7_0, ka8_0, ka9_0, ka10_0, ka11_0, ka12_0, ka13_0, kl0_0, kl1_0, kl2_0, kl3_0, kl4_0, kl5_0, kl6_0, kl7_0, kl8_0, kl9_0, kl10_0, kl11_0, kl12_0, kl13_0, kL_0, hup, dlt, Bool.and_true, Bool.true_and, Bool.false_and, Bool.and_false, Bool.not_true, Bool.not_false]
        refine AT_call rfl rfl (word94) fun v M1 hd1 h1 => ?_
        obtain ⟨hv, hM⟩ := h1; subst hv; subst hM
        simp (maxSteps := 1000000) only [go_sem, Q, ka0_0, ka1_0, ka2_0, ka3_0, ka4_0, ka5_0, ka6_0, ka7_0, ka8_0, ka9_0, ka10_0, ka11_0, ka12_0, ka13_0, kl0_0, kl1_0, kl2_0, kl3_0, kl4_0, kl5_0, kl6_0, kl7_0, kl8_0, kl9_0, kl10_0, kl11_0, kl12_0, kl13_0, kL_0, hup, dlt, Bool.and_true, Bool.true_and, Bool.false_and, Bool.and_false, Bool.not_true, Bool.not_false]
        refine AT_call rfl rfl (word94) fun v M1 hd1 h1 => ?_
        obtain ⟨hv, hM⟩ := h1; subst hv; subst hM
        simp (maxSteps := 1000000) only [go_sem, Q, ka0_0, ka1_0, ka2_0, ka3_0, ka4_0, ka5_0, ka6_0, ka7_0, ka8_0, ka9_0, ka10_0, ka11_0, ka12_0, ka13_0, kl0_0, kl1_0, kl2_0, kl3_0, kl4_0, kl5_0, kl6_0, kl7_0, kl8_0, kl9_0, kl10_0, kl11_0, kl12_0, kl13_0, kL_0, hup, dlt, Bool.and_true, Bool.true_and, Bool.false_and, Bool.and_false, Bool.not_true, Bool.not_false]
        refine AT_call rfl rfl (word94) fun v M1 hd1 h1 => ?_
        obtain ⟨hv, hM⟩ := h1; subst hv; subst hM
        simp (maxSteps := 1000000) only [go_sem, Q, ka0_0, ka1_0, ka2_0, ka3_0, ka4_0, ka5_0, ka6_0, ka7_0, ka8_0, ka9_0, ka10_0, ka11_0, ka12_0, ka13_0, kl0_0, kl1_0, kl2_0, kl3_0, kl4_0, kl5_0, kl6_0, kl7_0, kl8_0, kl9_0, kl10_0, kl11_0, kl12_0, kl13_0, kL_0, hup, dlt, Bool.and_true, Bool.true_and, Bool.false_and, Bool.and_false, Bool.not_true, Bool.not_false]
        refine AT_call rfl rfl (word94) fun v M1 hd1 h1 => ?_
        obtain ⟨hv, hM⟩ := h1; subst hv; subst hM
        simp (maxSteps := 1000000) only [go_sem, Q, ka0_0, ka1_0, ka2_0, ka3_0, ka4_0, ka5_0, ka6_0, ka7_0, ka8_0, ka9_0, ka10_0, ka11_0, ka12_0, ka13_0, kl0_0, kl1_0, kl2_0, kl3_0, kl4_0, kl5_0, kl6_0, kl7_0, kl8_0, kl9_0, kl10_0, kl11_0, kl12_0, kl13_0, kL_0, hup, dlt, Bool.and_true, Bool.true_and, Bool.false_and, Bool.and_false, Bool.not_true, Bool.not_false]
        refine AT_call rfl rfl (word94) fun v M1 hd1 h1 => ?_
        obtain ⟨hv, hM⟩ := h1; subst hv; subst hM
        simp (maxSteps := 1000000) only [go_sem, Q, ka0_0, ka1_0, ka2_0, ka3_0, ka4_0, ka5_0, ka6_0, ka7_0, ka8_0, ka9_0, ka10_0, ka11_0, ka12_0, ka13_0, kl0_0, kl1_0, kl2_0, kl3_0, kl4_0, kl5_0, kl6_0, kl7_0, kl8_0, kl9_0, kl10_0, kl11_0, kl12_0, kl13_0, kL_0, hup, dlt, Bool.and_true, Bool.true_and, Bool.false_and, Bool.and_false, Bool.not_true, Bool.not_false]
        exact ⟨_, _, _, _, _, _, _, _, _, _, _, _, _, _, _, _, _, _, _, _, _, _, _, _, _, _, _, _, _, _, _, _, _, _, _, _, _, _, _, _, _, _, _, _, _, _, _, _, _, _, _, _, _, _, _, _, _, _, _, _, _, _, _, _, _, _, _, _, _, _, _, _, _, _, _, _, _, _, _, _, _, _, _, _, _, _, _, _, _, _, _, _, _, _, _, _, _, _, _, _, _, _, _, _, _, _, _, _, _, _, _, _, _, _, _, _, _, _, _, _, _, rfl, by simp only [Q, Bool.and_true, Bool.true_and, Bool.false_and, Bool.and_false, Bool.not_true, Bool.not_false], rfl⟩
      · (repeat refine W_seq ?_); refine W_regionT [] ?_
        simp (maxSteps := 1000000) only [go_sem, Q, hup, ka0_0, ka1_0, ka2_0, ka3_0, ka4_0, ka5_0, ka6_0, ka7_0, ka8_0, ka9_0, ka10_0, ka11_0, ka12_0, ka13_0, kl0_0, kl1_0, kl2_0, kl3_0, kl4_0, kl5_0, kl6_0, kl7_0, kl8_0, kl9_0, kl10_0, kl11_0, kl12_0, kl13_0, kL_0, Bool.and_true, Bool.true_and, Bool.false_and, Bool.and_false, Bool.not_true, Bool.not_false]
        refine AT_call rfl rfl (word94) fun v M1 hd1 h1 => ?_
        obtain ⟨hv, hM⟩ := h1; subst hv; subst hM
        simp (maxSteps := 1000000) only [go_sem, Q, ka0_0, ka1_0, ka2_0, ka3_0, ka4_0, ka5_0, ka6_0, ka7_0, ka8_0, ka9_0, ka10_0, ka11_0, ka12_0, ka13_0, kl0_0, kl1_0, kl2_0, kl3_0, kl4_0, kl5_0, kl6_0, kl7_0, kl8_0, kl9_0, kl10_0, kl11_0, kl12_0, kl13_0, kL_0, hup, dlt, Bool.and_true, Bool.true_and, Bool.false_and, Bool.and_false, Bool.not_true, Bool.not_false]
        refine AT_call rfl rfl (word94) fun v M1 hd1 h1 => ?_
        obtain ⟨hv, hM⟩ := h1; subst hv; subst hM
        simp (maxSteps := 1000000) only [go_sem, Q, ka0_0, ka1_0, ka2_0, ka3_0, ka4_0, ka5_0, ka6_0, ka7_0, ka8_0, ka9_0, ka10_0, ka11_0, ka12_0, ka13_0, kl0_0, kl1_0, kl2_0, kl3_0, kl4_0, kl5_0, kl6_0, kl7_0, kl8_0, kl9_0, kl10_0, kl11_0, kl12_0, kl13_0, kL_0, hup, dlt, Bool.and_true, Bool.true_and, Bool.false_and, Bool.and_false, Bool.not_true, Bool.not_false]
        refine AT_call rfl rfl (word94) fun v M1 hd1 h1 => ?_
        obtain ⟨hv, hM⟩ := h1; subst hv; subst hM
        simp (maxSteps := 1000000) only [go_sem, Q, ka0_0, ka1_0, ka2_0, ka3_0, ka4_0, ka5_0, ka6_0, ka7_0, ka8_0, ka9_0, ka10_0, ka11_0, ka12_0, ka13_0, kl0_0, kl1_0, kl2_0, kl3_0, kl4_0, kl5_0, kl6_0, kl7_0, kl8_0, kl9_0, kl10_0, kl11_0, kl12_0, kl13_0, kL_0, hup, dlt, Bool.and_true, Bool.true_and, Bool.false_and, Bool.and_false, Bool.not_true, Bool.not_false]
        refine AT_call rfl rfl (word94) fun v M1 hd1 h1 => ?_
        obtain ⟨hv, hM⟩ := h1; subst hv; subst hM
        simp (maxSteps := 1000000) only [go_sem, Q, ka0_0, ka1_0, ka2_0, ka3_0, ka4_0, ka5_0, ka6_0, ka7_0, ka8_0, ka9_0, ka10_0, ka11_0, ka12_0, ka13_0, kl0_0, kl1_0, kl2_0, kl3_0, kl4_0, kl5_0, kl6_0, kl7_0, kl8_0, kl9_0, kl10_0, kl11_0, kl12_0, kl13_0, kL_0, hup, dlt, Bool.and_true, Bool.true_and, Bool.false_and, Bool.and_false, Bool.not_true, Bool.not_false]
        refine AT_call rfl rfl (word94) fun v M1 hd1 h1 => ?_
        obtain ⟨hv, hM⟩ := h1; subst hv; subst hM
        simp (maxSteps := 1000000) only [go_sem, Q, ka0_0, ka1_0, ka2_0, ka3_0, ka4_0, ka5_0, ka6_0, ka7_0, ka8_0, ka9_0, ka10_0, ka11_0, ka12_0, ka13_0, kl0_0, kl1_0, kl2_0, kl3_0, kl4_0, kl5_0, kl6_0, kl7_0, kl8_0, kl9_0, kl10_0, kl11_0, kl12_0, kl13_0, kL_0, hup, dlt, Bool.and_true, Bool.true_and, Bool.false_and, Bool.and_false, Bool.not_true, Bool.not_false]
        refine AT_call rfl rfl (word94) fun v M1 hd1 h1 => ?_
        obtain ⟨hv, hM⟩ := h1; subst hv; subst hM
        simp (maxSteps := 1000000) only [go_sem, Q, ka0_0, ka1_0, ka2_0, ka3_0, ka4_0, ka5_0, ka6_0, ka7_0, ka8_0, ka9_0, ka10_0, ka11_0, ka12_0, ka13_0, kl0_0, kl1_0, kl2_0, kl3_0, kl4_0, kl5_0, kl6_0, kl7_0, kl8_0, kl9_0, kl10_0, kl11_0, kl12_0, kl13_0, kL_0, hup, dlt, Bool.and_true, Bool.true_and, Bool.false_and, Bool.and_false, Bool.not_true, Bool.not_false]
        exact ⟨_, _, _, _, _, _, _, _, _, _, _, _, _, _, _, _, _, _, _, _, _, _, _, _, _, _, _, _, _, _, _, _, _, _, _, _, _, _, _, _, _, _, _, _, _, _, _, _, _, _, _, _, _, _, _, _, _, _, _, _, _, _, _, _, _, _, _, _, _, _, _, _, _, _, _, _, _, _, _, _, _, _, _, _, _, _, _, _, _, _, _, _, _, _, _, _, _, _, _, _, _, _, _, _, _, _, _, _, _, _, _, _, _, _, _, _, _, _, _, _, _, rfl, by simp only [Q, Bool.and_true, Bool.true_and, Bool.false_and, Bool.and_false, Bool.not_true, Bool.not_false], rfl⟩
    refine fun env M' => ?_
    refine exE fun x2 => exE fun x3 => exE fun x4 => exE fun x6 => exE fun x7 => exE fun x8 => exE fun x9 => exE fun x10 => exE fun x11 => exE fun x12 => exE fun x13 => exE fun x14 => exE fun x15 => exE fun x16 => exE fun x17 => exE fun x18 => exE fun x19 => exE fun x20 => exE fun x21 => exE fun x22 => exE fun x23 => exE fun x24 => exE fun x25 => exE fun x26 => exE fun x27 => exE fun x28 => exE fun x29 => exE fun x30 => exE fun x31 => exE fun x32 => exE fun x33 => exE fun x34 => exE fun x35 => exE fun x36 => exE fun x37 => exE fun x38 => exE fun x39 => exE fun x40 => exE fun x41 => exE fun x42 => exE fun x43 => exE fun x44 => exE fun x45 => exE fun x46 => exE fun x47 => exE fun x48 => exE fun x49 => exE fun x50 => exE fun x51 => exE fun x52 => exE fun x53 => exE fun x54 => exE fun x55 => exE fun x56 => exE fun x57 => exE fun x58 => exE fun x59 => exE fun x60 => exE fun x61 => exE fun x62 => exE fun x63 => exE fun x64 => exE fun x65 => exE fun x66 => exE fun x67 => exE fun x68 => exE fun x69 => exE fun x70 => exE fun x71 => exE fun x72 => exE fun x73 => exE fun x74 => exE fun x75 => exE fun x76 => exE fun x77 => exE fun x78 => exE fun x79 => exE fun x80 => exE fun x81 => exE fun x82 => exE fun x83 => exE fun x84 => exE fun x85 => exE fun x86 => exE fun x87 => exE fun x88 => exE fun x89 => exE fun x90 => exE fun x91 => exE fun x92 => exE fun x93 => exE fun x94 => exE fun x95 => exE fun x96 => exE fun x97 => exE fun x98 => exE fun x99 => exE fun x100 => exE fun x101 => exE fun x102 => exE fun x103 => exE fun x104 => exE fun x105 => exE fun x106 => exE fun x107 => exE fun x108 => exE fun x109 => exE fun x110 => exE fun x111 => exE fun x112 => exE fun x113 => exE fun x114 => exE fun x115 => exE fun x116 => exE fun x117 => exE fun x118 => exE fun x119 => exE fun x120 => exE fun x121 => exE fun x122 => ?_
    rintro ⟨p, rfl, hp, rfl⟩
    rcases ff6 (p) (decide (0 ≤ a.off)) (decide (a.off ≤ 4611686018427387904)) (decide ((a.name.length : Int) ≤ 255)) (decide ((a.names.length : Int) ≤ 8)) (decide ((a.data.length : Int) ≤ 1024)) with Q | Q | Q | Q | Q | Q | Q
    · (repeat refine W_seq ?_); refine W_regionT [] ?_
      simp (maxSteps := 1000000) only [go_sem, Q, dlt, len9, hn.len, hd.len, ka0_0, ka1_0, ka2_0, ka3_0, ka4_0, ka5_0, ka6_0, ka7_0, ka8_0, ka9_0, ka10_0, ka11_0, ka12_0, ka13_0, kl0_0, kl1_0, kl2_0, kl3_0, kl4_0, kl5_0, kl6_0, kl7_0, kl8_0, kl9_0, kl10_0, kl11_0, kl12_0, kl13_0, kL_0, Bool.and_true, Bool.true_and, Bool.false_and, Bool.and_false, Bool.not_true, Bool.not_false]
      (repeat refine W_seq ?_)
      refine W_cond (b := true) rfl ?_
      simp only [if_true]
      (repeat refine W_seq ?_); refine W_regionT [] ?_
      simp only [go_sem]
      refine W_ret ⟨.inr rfl, _, rfl, rfl, ?_, rfl⟩
      have hmf : a.may = false := by
        rw [Q] at hp
        cases hm : a.may with
        | false => rfl
        | true =>
          exfalso
          unfold AskR.may AskR.head AskR.words at hm
          simp only [List.all_cons, List.all_nil, Bool.and_true, Bool.and_eq_true] at hm
          simp [hm] at hp
      rw [hmf]; rfl
    · (repeat refine W_seq ?_); refine W_regionT [] ?_
      simp (maxSteps := 1000000) only [go_sem, Q, dlt, len9, hn.len, hd.len, ka0_0, ka1_0, ka2_0, ka3_0, ka4_0, ka5_0, ka6_0, ka7_0, ka8_0, ka9_0, ka10_0, ka11_0, ka12_0, ka13_0, kl0_0, kl1_0, kl2_0, kl3_0, kl4_0, kl5_0, kl6_0, kl7_0, kl8_0, kl9_0, kl10_0, kl11_0, kl12_0, kl13_0, kL_0, Bool.and_true, Bool.true_and, Bool.false_and, Bool.and_false, Bool.not_true, Bool.not_false]
      (repeat refine W_seq ?_)
      refine W_cond (b := true) rfl ?_
      simp only [if_true]
      (repeat refine W_seq ?_); refine W_regionT [] ?_
      simp only [go_sem]
      refine W_ret ⟨.inr rfl, _, rfl, rfl, ?_, rfl⟩
      rw [show a.may = false by unfold AskR.may AskR.head inB; simp only [Q, List.any_cons, Bool.and_true, Bool.true_and, Bool.false_and, Bool.and_false, Bool.not_true, Bool.not_false]]; rfl
    · (repeat refine W_seq ?_); refine W_regionT [] ?_
      simp (maxSteps := 1000000) only [go_sem, Q, dlt, len9, hn.len, hd.len, ka0_0, ka1_0, ka2_0, ka3_0, ka4_0, ka5_0, ka6_0, ka7_0, ka8_0, ka9_0, ka10_0, ka11_0, ka12_0, ka13_0, kl0_0, kl1_0, kl2_0, kl3_0, kl4_0, kl5_0, kl6_0, kl7_0, kl8_0, kl9_0, kl10_0, kl11_0, kl12_0, kl13_0, kL_0, Bool.and_true, Bool.true_and, Bool.false_and, Bool.and_false, Bool.not_true, Bool.not_false]
      (repeat refine W_seq ?_)
      refine W_cond (b := true) rfl ?_
      simp only [if_true]
      (repeat refine W_seq ?_); refine W_regionT [] ?_
      simp only [go_sem]
      refine W_ret ⟨.inr rfl, _, rfl, rfl, ?_, rfl⟩
      rw [show a.may = false by unfold AskR.may AskR.head inB; simp only [Q, List.any_cons, Bool.and_true, Bool.true_and, Bool.false_and, Bool.and_false, Bool.not_true, Bool.not_false]]; rfl
    · (repeat refine W_seq ?_); refine W_regionT [] ?_
      simp (maxSteps := 1000000) only [go_sem, Q, dlt, len9, hn.len, hd.len, ka0_0, ka1_0, ka2_0, ka3_0, ka4_0, ka5_0, ka6_0, ka7_0, ka8_0, ka9_0, ka10_0, ka11_0, ka12_0, ka13_0, kl0_0, kl1_0, kl2_0, kl3_0, kl4_0, kl5_0, kl6_0, kl7_0, kl8_0, kl9_0, kl10_0, kl11_0, kl12_0, kl13_0, kL_0, Bool.and_true, Bool.true_and, Bool.false_and, Bool.and_false, Bool.not_true, Bool.not_false]
      (repeat refine W_seq ?_)
      refine W_cond (b := true) rfl ?_
      simp only [if_true]
      (repeat refine W_seq ?_); refine W_regionT [] ?_
      simp only [go_sem]
      refine W_ret ⟨.inr rfl, _, rfl, rfl, ?_, rfl⟩
      have hmf : a.may = false := by
        cases hm : a.may with
        | false => rfl
        | true =>
          exfalso
          have fit := AskR.fit hm
          have h := Q.2.2.2
          have f1 := fit.n
          have f2 := fit.l
          have f3 := fit.d
          simp only [decide_eq_false_iff_not] at h
          omega
      rw [hmf]; rfl
    · (repeat refine W_seq ?_); refine W_regionT [] ?_
      simp (maxSteps := 1000000) only [go_sem, Q, dlt, len9, hn.len, hd.len, ka0_0, ka1_0, ka2_0, ka3_0, ka4_0, ka5_0, ka6_0, ka7_0, ka8_0, ka9_0, ka10_0, ka11_0, ka12_0, ka13_0, kl0_0, kl1_0, kl2_0, kl3_0, kl4_0, kl5_0, kl6_0, kl7_0, kl8_0, kl9_0, kl10_0, kl11_0, kl12_0, kl13_0, kL_0, Bool.and_true, Bool.true_and, Bool.false_and, Bool.and_false, Bool.not_true, Bool.not_false]
      (repeat refine W_seq ?_)
      refine W_cond (b := true) rfl ?_
      simp only [if_true]
      (repeat refine W_seq ?_); refine W_regionT [] ?_
      simp only [go_sem]
      refine W_ret ⟨.inr rfl, _, rfl, rfl, ?_, rfl⟩
      have hmf : a.may = false := by
        cases hm : a.may with
        | false => rfl
        | true =>
          exfalso
          have fit := AskR.fit hm
          have h := Q.2.2.2.2
          have f1 := fit.n
          have f2 := fit.l
          have f3 := fit.d
          simp only [decide_eq_false_iff_not] at h
          omega
      rw [hmf]; rfl
    · (repeat refine W_seq ?_); refine W_regionT [] ?_
      simp (maxSteps := 1000000) only [go_sem, Q, dlt, len9, hn.len, hd.len, ka0_0, ka1_0, ka2_0, ka3_0, ka4_0, ka5_0, ka6_0, ka7_0, ka8_0, ka9_0, ka10_0, ka11_0, ka12_0, ka13_0, kl0_0, kl1_0, kl2_0, kl3_0, kl4_0, kl5_0, kl6_0, kl7_0, kl8_0, kl9_0, kl10_0, kl11_0, kl12_0, kl13_0, kL_0, Bool.and_true, Bool.true_and, Bool.false_and, Bool.and_false, Bool.not_true, Bool.not_false]
      (repeat refine W_seq ?_)
      refine W_cond (b := true) rfl ?_
      simp only [if_true]
      (repeat refine W_seq ?_); refine W_regionT [] ?_
      simp only [go_sem]
      refine W_ret ⟨.inr rfl, _, rfl, rfl, ?_, rfl⟩
      have hmf : a.may = false := by
        cases hm : a.may with
        | false => rfl
        | true =>
          exfalso
          have fit := AskR.fit hm
          have h := Q.2.2.2.2.2
          have f1 := fit.n
          have f2 := fit.l
          have f3 := fit.d
          simp only [decide_eq_false_iff_not] at h
          omega
      rw [hmf]; rfl
    · (repeat refine W_seq ?_); refine W_regionT [] ?_
      simp (maxSteps := 1000000) only [go_sem, Q, dlt, len9, hn.len, hd.len, ka0_0, ka1_0, ka2_0, ka3_0, ka4_0, ka5_0, ka6_0, ka7_0, ka8_0, ka9_0, ka10_0, ka11_0, ka12_0, ka13_0, kl0_0, kl1_0, kl2_0, kl3_0, kl4_0, kl5_0, kl6_0, kl7_0, kl8_0, kl9_0, kl10_0, kl11_0, kl12_0, kl13_0, kL_0, Bool.and_true, Bool.true_and, Bool.false_and, Bool.and_false, Bool.not_true, Bool.not_false]
      (repeat refine W_seq ?_)
      refine W_cond (b := false) rfl ?_
      simp only [Bool.false_eq_true, if_false]
      refine W_skip ?_
      simp only [go_sem]
      (repeat refine W_seq ?_); refine W_regionT [] ?_
      simp only [go_sem]
      (repeat refine W_seq ?_)
      refine W_block (W_loop (L_inv (fun j env M' => ∃ (x2 x3 x4 x5 x7 x8 x9 x10 x11 x12 x13 x14 x15 x16 x17 x18 x19 x20 x21 x22 x23 x24 x25 x26 x27 x28 x29 x30 x31 x32 x33 x34 x35 x36 x37 x38 x39 x40 x41 x42 x43 x44 x45 x46 x47 x48 x49 x50 x51 x52 x53 x54 x55 x56 x57 x58 x59 x60 x61 x62 x63 x64 x65 x66 x67 x68 x69 x70 x71 x72 x73 x74 x75 x76 x77 x78 x79 x80 x81 x82 x83 x84 x85 x86 x87 x88 x89 x90 x91 x92 x93 x94 x95 x96 x97 x98 x99 x100 x101 x102 x103 x104 x105 x106 x107 x108 x109 x110 x111 x112 x113 x114 x115 x116 x117 x118 x119 x120 x121 x122 : AV) (i : Nat), env = [.agg (a.cells vn vd), .ptr ⟨S.length + 1, 0, 0⟩, x2, x3, x4, x5, .int .i64 i, x7, x8, x9, x10, x11, x12, x13, x14, x15, x16, x17, x18, x19, x20, x21, x22, x23, x24, x25, x26, x27, x28, x29, x30, x31, x32, x33, x34, x35, x36, x37, x38, x39, x40, x41, x42, x43, x44, x45, x46, x47, x48, x49, x50, x51, x52, x53, x54, x55, x56, x57, x58, x59, x60, x61, x62, x63, x64, x65, x66, x67, x68, x69, x70, x71, x72, x73, x74, x75, x76, x77, x78, x79, x80, x81, x82, x83, x84, x85, x86, x87, x88, x89, x90, x91, x92, x93, x94, x95, x96, x97, x98, x99, x100, x101, x102, x103, x104, x105, x106, x107, x108, x109, x110, x111, x112, x113, x114, x115, x116, x117, x118, x119, x120, x121, x122] ∧ i + j = a.names.length ∧ M' = ⟨H, [Block.row ⟨72, 14, AskR.cells a vn vd, false, false⟩, Block.row ⟨72, 14, AskR.cells a.own (a.ownN vn) (a.ownD vd), false, false⟩] :: S⟩ ∧ ∀ m (hm : m < a.names.length), m < i → ¬ 255 < (a.names[m]'hm).length) (fun j env M2 => ?_) (a.names.length) ?_))
      case refine_2 => exact ⟨_, _, _, _, _, _, _, _, _, _, _, _, _, _, _, _, _, _, _, _, _, _, _, _, _, _, _, _, _, _, _, _, _, _, _, _, _, _, _, _, _, _, _, _, _, _, _, _, _, _, _, _, _, _, _, _, _, _, _, _, _, _, _, _, _, _, _, _, _, _, _, _, _, _, _, _, _, _, _, _, _, _, _, _, _, _, _, _, _, _, _, _, _, _, _, _, _, _, _, _, _, _, _, _, _, _, _, _, _, _, _, _, _, _, _, _, _, _, _, _, 0, rfl, by omega, rfl, fun m _ h => by omega⟩
      refine exE fun x2 => exE fun x3 => exE fun x4 => exE fun x5 => exE fun x7 => exE fun x8 => exE fun x9 => exE fun x10 => exE fun x11 => exE fun x12 => exE fun x13 => exE fun x14 => exE fun x15 => exE fun x16 => exE fun x17 => exE fun x18 => exE fun x19 => exE fun x20 => exE fun x21 => exE fun x22 => exE fun x23 => exE fun x24 => exE fun x25 => exE fun x26 => exE fun x27 => exE fun x28 => exE fun x29 => exE fun x30 => exE fun x31 => exE fun x32 => exE fun x33 => exE fun x34 => exE fun x35 => exE fun x36 => exE fun x37 => exE fun x38 => exE fun x39 => exE fun x40 => exE fun x41 => exE fun x42 => exE fun x43 => exE fun x44 => exE fun x45 => exE fun x46 => exE fun x47 => exE fun x48 => exE fun x49 => exE fun x50 => exE fun x51 => exE fun x52 => exE fun x53 => exE fun x54 => exE fun x55 => exE fun x56 => exE fun x57 => exE fun x58 => exE fun x59 => exE fun x60 => exE fun x61 => exE fun x62 => exE fun x63 => exE fun x64 => exE fun x65 => exE fun x66 => exE fun x67 => exE fun x68 => exE fun x69 => exE fun x70 => exE fun x71 => exE fun x72 => exE fun x73 => exE fun x74 => exE fun x75 => exE fun x76 => exE fun x77 => exE fun x78 => exE fun x79 => exE fun x80 => exE fun x81 => exE fun x82 => exE fun x83 => exE fun x84 => exE fun x85 => exE fun x86 => exE fun x87 => exE fun x88 => exE fun x89 => exE fun x90 => exE fun x91 => exE fun x92 => exE fun x93 => exE fun x94 => exE fun x95 => exE fun x96 => exE fun x97 => exE fun x98 => exE fun x99 => exE fun x100 => exE fun x101 => exE fun x102 => exE fun x103 => exE fun x104 => exE fun x105 => exE fun x106 => exE fun x107 => exE fun x108 => exE fun x109 => exE fun x110 => exE fun x111 => exE fun x112 => exE fun x113 => exE fun x114 => exE fun x115 => exE fun x116 => exE fun x117 => exE fun x118 => exE fun x119 => exE fun x120 => exE fun x121 => exE fun x122 => ?_
      rintro ⟨i, rfl, hij, rfl, hno⟩
      (repeat refine W_seq ?_); refine W_regionT [] ?_
      simp only [go_sem, hn.len, ka0_0, ka1_0, ka2_0, ka3_0, ka4_0, ka5_0, ka6_0, ka7_0, ka8_0, ka9_0, ka10_0, ka11_0, ka12_0, ka13_0, kl0_0, kl1_0, kl2_0, kl3_0, kl4_0, kl5_0, kl6_0, kl7_0, kl8_0, kl9_0, kl10_0, kl11_0, kl12_0, kl13_0, kL_0]
      (repeat refine W_seq ?_)
      refine W_cond_if rfl (fun hb => ?_) (fun hb => ?_)
      · have hi : i < a.names.length := by simpa using hb
        refine W_skip ?_
        simp only [go_sem]
        (repeat refine W_seq ?_)
        refine W_block ?_
        have a70 := at70 (S := [Block.row ⟨72, 14, AskR.cells a vn vd, false, false⟩, Block.row ⟨72, 14, AskR.cells a.own (a.ownN vn) (a.ownD vd), false, false⟩] :: S) hn hi
        (repeat refine W_seq ?_); refine W_regionT [] ?_
        simp only [go_sem, a70.1, a70.2, len9, ka0_0, ka1_0, ka2_0, ka3_0, ka4_0, ka5_0, ka6_0, ka7_0, ka8_0, ka9_0, ka10_0, ka11_0, ka12_0, ka13_0, kl0_0, kl1_0, kl2_0, kl3_0, kl4_0, kl5_0, kl6_0, kl7_0, kl8_0, kl9_0, kl10_0, kl11_0, kl12_0, kl13_0, kL_0]
        (repeat refine W_seq ?_)
        refine W_cond_if rfl (fun hb => ?_) (fun hb => ?_)
        · have hlong : 255 < a.names[i].length := by simp at hb; omega
          (repeat refine W_seq ?_); refine W_regionT [] ?_
          simp only [go_sem]
          refine W_ret ⟨.inr rfl, _, rfl, rfl, ?_, rfl⟩
          have hmf : a.may = false := by
            cases hm : a.may with
            | false => rfl
            | true =>
              exfalso
              have h := (AskR.fit hm).s _ (List.getElem_mem hi)
              omega
          rw [hmf]; rfl
        · have hshort : ¬ 255 < a.names[i].length := by simp at hb; omega
          refine W_skip ?_
          simp only [go_sem]
          (repeat refine W_seq ?_); refine W_regionT [] ?_
          simp only [go_sem, show (i : Int) + 1 = ((i + 1 : Nat) : Int) from rfl, wrap_i64 (n := ((i + 1 : Nat) : Int)) (by omega) (by omega)]
          refine ⟨j - 1, by omega, _, _, _, _, _, _, _, _, _, _, _, _, _, _, _, _, _, _, _, _, _, _, _, _, _, _, _, _, _, _, _, _, _, _, _, _, _, _, _, _, _, _, _, _, _, _, _, _, _, _, _, _, _, _, _, _, _, _, _, _, _, _, _, _, _, _, _, _, _, _, _, _, _, _, _, _, _, _, _, _, _, _, _, _, _, _, _, _, _, _, _, _, _, _, _, _, _, _, _, _, _, _, _, _, _, _, _, _, _, _, _, _, _, _, _, _, _, _, _, _, i + 1, rfl, by omega, trivial, fun m hml hm => by
  rcases Nat.lt_or_ge m i with h | h
  · exact hno m hml h
  · obtain rfl : m = i := by omega
    exact hshort⟩
      · have hi : a.names.length = i := by simp at hb; omega
        (repeat refine W_seq ?_)
        refine W_exit ?_
        simp only [go_sem]
        (repeat refine W_seq ?_); refine W_regionT [] ?_
        simp only [go_sem]
        refine W_ret ⟨.inr rfl, _, rfl, rfl, ?_, rfl⟩
        have hmt : a.may = true := by
          rw [Q.1] at hp
          have hw := hp.symm
          simp only [Bool.and_eq_true] at hw
          obtain ⟨_, q1, q2, q3, q4, q5⟩ := Q
          have hany : ((a.name :: a.names).any fun s => decide (255 < s.length)) = false := by
            rw [List.any_eq_false]
            intro s hs
            simp only [decide_eq_true_eq] at q3 ⊢
            rcases List.mem_cons.1 hs with rfl | hs
            · omega
            · obtain ⟨m, hm⟩ := List.getElem?_of_mem hs
              obtain ⟨hml, hme⟩ := List.getElem?_eq_some_iff.1 hm
              rw [← hme]; have := hno m hml (by omega); omega
          unfold AskR.may AskR.head AskR.words
          rw [hany]
          simp only [List.all_cons, List.all_nil, hw, q4, q5]
          unfold inB
          simp only [QH, q1, q2, Bool.and_true, Bool.true_and, Bool.false_and, Bool.and_false, Bool.not_true, Bool.not_false]
        rw [hmt]; rfl
def kindOf (n : Int) : Int := kinds12.getD (around n 12).toNat 0
theorem kind90 {n : Int} (hn : -9223372036854775808 ≤ n ∧ n < 9223372036854775808) : AC Try.prog 90 [.int .i64 n] ⟨H, S⟩ (fun v M' => v = .int .i64 (kindOf n) ∧ M' = ⟨H, S⟩) := by
  refine AC_of_WE Try.func90 rfl ?_
  simp only [Try.ntmps90, List.length_cons, List.length_nil, List.replicate, List.cons_append, List.nil_append, mem_enter]
  (repeat refine W_seq ?_); refine W_regionT [] ?_
  simp only [go_sem]
  (repeat refine W_seq ?_); refine W_regionT [] ?_
  simp only [go_sem, bk59, List.nil_append, List.cons_append, List.length_nil, List.length_cons, Nat.zero_add, Nat.reduceAdd]
  refine AT_call rfl rfl (aroundF hn.1 hn.2 (by decide)) fun v M1 hd1 h1 => ?_
  obtain ⟨hv, hM⟩ := h1
  have hr := around_range (n := n) (k := 12) (by decide)
  unfold kindOf
  generalize around n 12 = r at hv hr ⊢
  subst hv; subst hM
  obtain ⟨t, rfl⟩ : ∃ t : Nat, r = t := ⟨r.toNat, by omega⟩
  have a3 := kind_at (S := S) (i := t) (ix := 0) (M' := ⟨H, [.row ⟨3, 1, kinds12.map (AV.int .i64), false, false⟩] :: S⟩) (by omega) gt0
  simp only [go_sem, a3.1, a3.2, bk59, List.nil_append, List.cons_append, List.length_nil, List.length_cons, Nat.zero_add, Nat.reduceAdd]
  exact W_ret ⟨.inr rfl, _, rfl, rfl, rfl, rfl⟩
theorem kindQ {M : Mem} {n : Int} (hn : -9223372036854775808 ≤ n ∧ n < 9223372036854775808) : AC Try.prog 90 [.int .i64 n] M fun v M' => v = .int .i64 (kindOf n) ∧ M' = M := by obtain ⟨H, S⟩ := M; exact kind90 hn
theorem low91 {n : Int} (hn : -9223372036854775808 ≤ n ∧ n < 9223372036854775808) : AC Try.prog 91 [.int .i64 n] ⟨H, S⟩ (fun v M' => v = .int .i64 (around n 4294967296) ∧ M' = ⟨H, S⟩) := by
  refine AC_of_WE Try.func91 rfl ?_
  simp only [Try.ntmps91, List.length_cons, List.length_nil, List.replicate, List.cons_append, List.nil_append, mem_enter]
  (repeat refine W_seq ?_); refine W_regionT [] ?_
  simp only [go_sem]
  (repeat refine W_seq ?_); refine W_regionT [] ?_
  simp only [go_sem]
  refine AT_call rfl rfl (aroundF hn.1 hn.2 (by decide)) fun v M1 hd1 h1 => ?_
  obtain ⟨hv, hM⟩ := h1; subst hv; subst hM
  simp only [go_sem]
  exact W_ret ⟨.inr rfl, _, rfl, rfl, rfl, rfl⟩
theorem lowQ {M : Mem} {n : Int} (hn : -9223372036854775808 ≤ n ∧ n < 9223372036854775808) : AC Try.prog 91 [.int .i64 n] M fun v M' => v = .int .i64 (around n 4294967296) ∧ M' = M := by obtain ⟨H, S⟩ := M; exact low91 hn
end
end Go.Proofs.Ytlpcbfndjffpfaa
