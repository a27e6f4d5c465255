/- The walk of the reference's Fields, has, keep, Own, Same, May. -/
import Derived.Test.YtlpcbfndjffpfaaAsks2
set_option maxRecDepth 100000
set_option maxHeartbeats 4000000
set_option linter.unusedSimpArgs false
set_option linter.unusedVariables false
namespace Go.Proofs.Ytlpcbfndjffpfaa
open Go.Abs
def kinds12 : List Int := [100, 104, 108, 110, 112, 114, 116, 118, 120, 122, 124, 126]
def texts12 : List (List UInt8) := [[122, 110], [102, 110], [116], [102, 119, 108], [102, 109], [102, 110, 112, 109], [102, 111, 99], [102, 111, 100], [102], [102], [102], [102, 115, 110]]
theorem fields_at {i : Nat} (h : i < 12) : fieldsOf (kinds12.getD i 0) = texts12.getD i [] := by
  have h2 : ∀ i : Fin 12, fieldsOf (kinds12.getD i.1 0) = texts12.getD i.1 [] := by decide
  exact h2 ⟨i, h⟩
theorem fields_short {k : Int} : (fieldsOf k).length ≤ 4 := by
  unfold fieldsOf
  repeat' split
  all_goals simp
section
variable {H H' : List Block} {S : List (List Block)} {F : List Block} {M' : Mem}
theorem bk59 : buildSliceA Try.prog 59 false 12 [(0, .int .i64 100), (1, .int .i64 104), (2, .int .i64 108), (3, .int .i64 110), (4, .int .i64 112), (5, .int .i64 114), (6, .int .i64 116), (7, .int .i64 118), (8, .int .i64 120), (9, .int .i64 122), (10, .int .i64 124), (11, .int .i64 126)] ⟨H, F :: S⟩ = some (.sl ⟨S.length + 1, F.length, 0⟩ 12 (some 12), ⟨H, (F ++ [.row ⟨3, 1, kinds12.map (AV.int .i64), false, false⟩]) :: S⟩) := by
  unfold buildSliceA
  simp only [ti59, ti3]
  have e1 : fillA (fun i => some (i * 1, 1)) (zeros (AV.int .i64 0).cells 12) [(0, .int .i64 100), (1, .int .i64 104), (2, .int .i64 108), (3, .int .i64 110), (4, .int .i64 112), (5, .int .i64 114), (6, .int .i64 116), (7, .int .i64 118), (8, .int .i64 120), (9, .int .i64 122), (10, .int .i64 124), (11, .int .i64 126)] = some (kinds12.map (AV.int .i64)) := rfl
  rw [if_pos ⟨by decide, rfl, rfl⟩, e1]
  simp only
  rw [if_pos ⟨by decide, by decide, by rfl⟩]
  rfl
theorem bt70 : buildSliceA Try.prog 70 false 12 [(0, .str [122, 110]), (1, .str [102, 110]), (2, .str [116]), (3, .str [102, 119, 108]), (4, .str [102, 109]), (5, .str [102, 110, 112, 109]), (6, .str [102, 111, 99]), (7, .str [102, 111, 100]), (8, .str [102]), (9, .str [102]), (10, .str [102]), (11, .str [102, 115, 110])] ⟨H, F :: S⟩ = some (.sl ⟨S.length + 1, F.length, 0⟩ 12 (some 12), ⟨H, (F ++ [.row ⟨9, 1, texts12.map AV.str, false, false⟩]) :: S⟩) := by
  unfold buildSliceA
  simp only [ti70, ti9]
  have e1 : fillA (fun i => some (i * 1, 1)) (zeros (AV.str []).cells 12) [(0, .str [122, 110]), (1, .str [102, 110]), (2, .str [116]), (3, .str [102, 119, 108]), (4, .str [102, 109]), (5, .str [102, 110, 112, 109]), (6, .str [102, 111, 99]), (7, .str [102, 111, 100]), (8, .str [102]), (9, .str [102]), (10, .str [102]), (11, .str [102, 115, 110])] = some (texts12.map AV.str) := rfl
  rw [if_pos ⟨by decide, rfl, rfl⟩, e1]
  simp only
  rw [if_pos ⟨by decide, by decide, by rfl⟩]
  rfl
theorem kind_at {i ix : Nat} (hi : i < 12) (hg : M'.get (S.length + 1) ix = some (.row ⟨3, 1, kinds12.map (AV.int .i64), false, false⟩)) : indexAddrA Try.prog 59 (.sl ⟨S.length + 1, ix, 0⟩ 12 (some 12)) (.int .i64 i) M' = some (.ptr ⟨S.length + 1, ix, i⟩) ∧ loadA Try.prog 3 (.ptr ⟨S.length + 1, ix, i⟩) M' = some (.int .i64 (kinds12.getD i 0)) := by
  obtain ⟨h1, h2⟩ := at_row (kk := .i64) (c := some 12) hg ti59 rfl ti3 rfl rfl hi
  refine ⟨h1, ?_⟩
  rw [h2, List.getElem?_map, List.getD, List.getElem?_eq_getElem (show i < kinds12.length from hi)]; rfl
theorem text_at {i ix : Nat} (hi : i < 12) (hg : M'.get (S.length + 1) ix = some (.row ⟨9, 1, texts12.map AV.str, false, false⟩)) : indexAddrA Try.prog 70 (.sl ⟨S.length + 1, ix, 0⟩ 12 (some 12)) (.int .i64 i) M' = some (.ptr ⟨S.length + 1, ix, i⟩) ∧ loadA Try.prog 9 (.ptr ⟨S.length + 1, ix, i⟩) M' = some (.str (texts12.getD i [])) := by
  obtain ⟨h1, h2⟩ := at_row (kk := .i64) (c := some 12) hg ti70 rfl ti9 rfl rfl hi
  refine ⟨h1, ?_⟩
  rw [h2, List.getElem?_map, List.getD, List.getElem?_eq_getElem (show i < texts12.length from hi)]; rfl
theorem fields93 {n : Int} : AC Try.prog 93 [.int .i64 n] ⟨H, S⟩ (fun v M' => v = .str (fieldsOf n) ∧ M' = ⟨H, S⟩) := by
  refine AC_of_WE Try.func93 rfl ?_
  simp only [Try.ntmps93, List.length_cons, List.length_nil, List.replicate, List.cons_append, List.nil_append, mem_enter]
  (repeat refine W_seq ?_); refine W_regionT [] ?_
  simp only [go_sem]
  (repeat refine W_seq ?_); refine W_regionT [] ?_
  simp only [go_sem, bk59, List.nil_append, List.cons_append, List.length_nil, List.length_cons, Nat.zero_add, Nat.reduceAdd]
  (repeat refine W_seq ?_); refine W_regionT [] ?_
  simp only [go_sem, bt70, List.nil_append, List.cons_append, List.length_nil, List.length_cons, Nat.zero_add, Nat.reduceAdd]
  (repeat refine W_seq ?_); refine W_regionT [] ?_
  simp only [go_sem]
  (repeat refine W_seq ?_)
  refine W_block (W_loop (L_inv (fun j env M' => ∃ (x1 x2 x6 x7 x8 x9 x10 x11 x12 x13 x14 x15 x16 x17 x18 x19 x20 x21 x22 x23 : AV) (i : Nat), env = [.int .i64 n, x1, x2, .sl ⟨S.length + 1, 0, 0⟩ 12 (some 12), .sl ⟨S.length + 1, 1, 0⟩ 12 (some 12), .int .i64 i, x6, x7, x8, x9, x10, x11, x12, x13, x14, x15, x16, x17, x18, x19, x20, x21, x22, x23] ∧ i + j = 12 ∧ M' = ⟨H, [.row ⟨3, 1, kinds12.map (AV.int .i64), false, false⟩, .row ⟨9, 1, texts12.map AV.str, false, false⟩] :: S⟩ ∧ ∀ m, m < i → ¬ kinds12.getD m 0 = n) (fun j env M2 => ?_) (12) ?_))
  case refine_2 => exact ⟨_, _, _, _, _, _, _, _, _, _, _, _, _, _, _, _, _, _, _, _, 0, rfl, rfl, rfl, fun m h => by omega⟩
  refine exE fun x1 => exE fun x2 => exE fun x6 => exE fun x7 => exE fun x8 => exE fun x9 => exE fun x10 => exE fun x11 => exE fun x12 => exE fun x13 => exE fun x14 => exE fun x15 => exE fun x16 => exE fun x17 => exE fun x18 => exE fun x19 => exE fun x20 => exE fun x21 => exE fun x22 => exE fun x23 => ?_
  rintro ⟨i, rfl, hij, rfl, hno⟩
  (repeat refine W_seq ?_); refine W_regionT [] ?_
  simp only [go_sem, len59]
  (repeat refine W_seq ?_)
  refine W_cond_if rfl (fun hb => ?_) (fun hb => ?_)
  · have hi : i < 12 := by simp at hb; omega
    refine W_skip ?_
    simp only [go_sem]
    (repeat refine W_seq ?_)
    refine W_block ?_
    have a3 := kind_at (S := S) (M' := ⟨H, [.row ⟨3, 1, kinds12.map (AV.int .i64), false, false⟩, .row ⟨9, 1, texts12.map AV.str, false, false⟩] :: S⟩) hi gt0
    (repeat refine W_seq ?_); refine W_regionT [] ?_
    simp only [go_sem, a3.1, a3.2]
    (repeat refine W_seq ?_)
    refine W_cond_if rfl (fun hb => ?_) (fun hb => ?_)
    · have hfound : kinds12.getD i 0 = n := by simpa using hb
      have a4 := text_at (S := S) (M' := ⟨H, [.row ⟨3, 1, kinds12.map (AV.int .i64), false, false⟩, .row ⟨9, 1, texts12.map AV.str, false, false⟩] :: S⟩) hi gt1
      (repeat refine W_seq ?_); refine W_regionT [] ?_
      simp only [go_sem, a4.1, a4.2]
      refine W_ret ⟨.inr rfl, _, rfl, rfl, ?_, rfl⟩
      rw [← hfound, fields_at hi]; rfl
    · have hnot : ¬ kinds12.getD i 0 = n := by simpa using hb
      refine W_skip ?_
      simp only [go_sem]
      (repeat refine W_seq ?_); refine W_regionT [] ?_
      simp only [go_sem, show (i : Int) + 1 = ((i + 1 : Nat) : Int) from rfl, wrap_i64 (n := ((i + 1 : Nat) : Int)) (by omega) (by omega)]
      refine ⟨j - 1, by omega, _, _, _, _, _, _, _, _, _, _, _, _, _, _, _, _, _, _, _, _, i + 1, rfl, by omega, trivial, fun m hm => by
  rcases Nat.lt_or_ge m i with h | h
  · exact hno m h
  · obtain rfl : m = i := by omega
    exact hnot⟩
  · have hi : i = 12 := by simp at hb; omega
    subst hi
    (repeat refine W_seq ?_)
    refine W_exit ?_
    simp only [go_sem]
    (repeat refine W_seq ?_); refine W_regionT [] ?_
    simp only [go_sem]
    refine W_ret ⟨.inr rfl, _, rfl, rfl, ?_, rfl⟩
    rw [fields_no (fun h => hno 0 (by omega) h.symm) (fun h => hno 1 (by omega) h.symm) (fun h => hno 2 (by omega) h.symm) (fun h => hno 3 (by omega) h.symm) (fun h => hno 4 (by omega) h.symm) (fun h => hno 5 (by omega) h.symm) (fun h => hno 6 (by omega) h.symm) (fun h => hno 7 (by omega) h.symm) (fun h => hno 8 (by omega) h.symm) (fun h => hno 9 (by omega) h.symm) (fun h => hno 10 (by omega) h.symm) (fun h => hno 11 (by omega) h.symm)]; rfl
theorem has127 {n : Int} (f : UInt8) : AC Try.prog 127 [.int .i64 n, .int .u8 f.toNat] ⟨H, S⟩ (fun v M' => v = .bool (hasF n f) ∧ M' = ⟨H, S⟩) := by
  refine AC_of_WE Try.func127 rfl ?_
  simp only [Try.ntmps127, List.length_cons, List.length_nil, List.replicate, List.cons_append, List.nil_append, mem_enter]
  have hsh := fields_short (k := n)
  unfold hasF
  (repeat refine W_seq ?_); refine W_regionT [] ?_
  simp only [go_sem]
  (repeat refine W_seq ?_); refine W_regionT [] ?_
  simp only [go_sem]
  refine AT_call rfl rfl (fields93) fun v M1 hd1 h1 => ?_
  obtain ⟨hv, hM⟩ := h1; subst hv; subst hM
  simp only [go_sem]
  generalize fieldsOf n = l at hsh ⊢
  (repeat refine W_seq ?_); refine W_regionT [] ?_
  simp only [go_sem]
  (repeat refine W_seq ?_)
  refine W_block (W_loop (L_inv (fun j env M' => ∃ (x2 x3 x4 x7 x8 x9 x10 x11 x12 x13 x14 x15 x16 x17 x18 x19 : AV) (i : Nat), env = [.int .i64 n, .int .u8 f.toNat, x2, x3, x4, .str l, .int .i64 i, x7, x8, x9, x10, x11, x12, x13, x14, x15, x16, x17, x18, x19] ∧ i + j = l.length ∧ M' = ⟨H, [] :: S⟩ ∧ ∀ m (hm : m < l.length), m < i → ¬ (l[m] == f) = true) (fun j env M2 => ?_) (l.length) ?_))
  case refine_2 => exact ⟨_, _, _, _, _, _, _, _, _, _, _, _, _, _, _, _, 0, rfl, by omega, rfl, fun m _ h => by omega⟩
  refine exE fun x2 => exE fun x3 => exE fun x4 => exE fun x7 => exE fun x8 => exE fun x9 => exE fun x10 => exE fun x11 => exE fun x12 => exE fun x13 => exE fun x14 => exE fun x15 => exE fun x16 => exE fun x17 => exE fun x18 => exE fun x19 => ?_
  rintro ⟨i, rfl, hij, rfl, hno⟩
  (repeat refine W_seq ?_); refine W_regionT [] ?_
  simp only [go_sem, len9]
  (repeat refine W_seq ?_)
  refine W_cond_if rfl (fun hb => ?_) (fun hb => ?_)
  · have hi : i < l.length := by simpa using hb
    refine W_skip ?_
    simp only [go_sem]
    (repeat refine W_seq ?_)
    refine W_block ?_
    have a5 := str_at hi
    (repeat refine W_seq ?_); refine W_regionT [] ?_
    simp only [go_sem, a5]
    (repeat refine W_seq ?_)
    refine W_cond_if rfl (fun hb => ?_) (fun hb => ?_)
    · have hfound : (l[i] == f) = true := by simp only [decide_eq_true_eq] at hb; simp; exact UInt8.toNat_inj.1 (by omega)
      (repeat refine W_seq ?_); refine W_regionT [] ?_
      simp only [go_sem]
      refine W_ret ⟨.inr rfl, _, rfl, rfl, ?_, rfl⟩
      rw [show (l.any (· == f)) = true from List.any_eq_true.2 ⟨l[i], List.getElem_mem hi, hfound⟩]; rfl
    · have hnot : ¬ (l[i] == f) = true := by intro h; rw [beq_iff_eq] at h; rw [h] at hb; simp at hb
      refine W_skip ?_
      simp only [go_sem]
      (repeat refine W_seq ?_); refine W_regionT [] ?_
      simp only [go_sem, show (i : Int) + 1 = ((i + 1 : Nat) : Int) from rfl, wrap_i64 (n := ((i + 1 : Nat) : Int)) (by omega) (by omega)]
      refine ⟨j - 1, by omega, _, _, _, _, _, _, _, _, _, _, _, _, _, _, _, _, i + 1, rfl, by omega, trivial, fun m hml hm => by
  rcases Nat.lt_or_ge m i with h | h
  · exact hno m hml h
  · obtain rfl : m = i := by omega
    exact hnot⟩
  · have hi : l.length = i := by simp at hb; omega
    (repeat refine W_seq ?_)
    refine W_exit ?_
    simp only [go_sem]
    (repeat refine W_seq ?_); refine W_regionT [] ?_
    simp only [go_sem]
    refine W_ret ⟨.inr rfl, _, rfl, rfl, ?_, rfl⟩
    rw [show (l.any (· == f)) = false from ?_]; rfl
    rw [List.any_eq_false]
    intro s hs
    obtain ⟨m, hm⟩ := List.getElem?_of_mem hs
    obtain ⟨hml, hme⟩ := List.getElem?_eq_some_iff.1 hm
    rw [← hme]
    exact hno m hml (by omega)
theorem keep126 {n m : Int} (f : UInt8) : AC Try.prog 126 [.int .i64 n, .int .u8 f.toNat, .int .i64 m] ⟨H, S⟩ (fun v M' => v = .int .i64 (if hasF n f then m else 0) ∧ M' = ⟨H, S⟩) := by
  refine AC_of_WE Try.func126 rfl ?_
  simp only [Try.ntmps126, List.length_cons, List.length_nil, List.replicate, List.cons_append, List.nil_append, mem_enter]
  (repeat refine W_seq ?_); refine W_regionT [] ?_
  simp only [go_sem]
  (repeat refine W_seq ?_); refine W_regionT [] ?_
  simp only [go_sem]
  refine AT_call rfl rfl (has127 f) fun v M1 hd1 h1 => ?_
  obtain ⟨hv, hM⟩ := h1; subst hv; subst hM
  simp only [go_sem]
  (repeat refine W_seq ?_)
  refine W_cond_if rfl (fun hb => ?_) (fun hb => ?_)
  · (repeat refine W_seq ?_); refine W_regionT [] ?_
    simp only [go_sem]
    refine W_ret ⟨.inr rfl, _, rfl, rfl, ?_, rfl⟩
    rw [if_pos hb]; rfl
  · refine W_skip ?_
    simp only [go_sem]
    (repeat refine W_seq ?_); refine W_regionT [] ?_
    simp only [go_sem]
    refine W_ret ⟨.inr rfl, _, rfl, rfl, ?_, rfl⟩
    rw [if_neg (by rw [hb]; decide)]; rfl
theorem bld2 {p q : Int} : buildA Try.prog 72 [(0, .int .i64 p), (1, .int .i64 q)] = some (.agg (AskR.cells ⟨p, q, 0, 0, 0, 0, 0, 0, 0, 0, [], [], 0, []⟩ .nilsl .nilsl)) := by unfold buildA; simp only [ti72]; rfl
theorem ks11_2' {H : List Block} {S : List (List Block)} {F : List Block} {B0 B1 : Block} {a : AskR} {vn vd x : AV} (hx : x.st = true) (hc : x.cells = [x]) : stores Try.prog 70 (.ptr ⟨S.length + 1, 2, 11⟩) x ⟨H, (B0 :: B1 :: Block.row ⟨72, 14, AskR.cells a vn vd, false, false⟩ :: F) :: S⟩ = some (.undef, ⟨H, (B0 :: B1 :: Block.row ⟨72, 14, AskR.cells a x vd, false, false⟩ :: F) :: S⟩) := ks11_2 hx hc
/-- What is laid alone: the slices. -/
def AskR.ownN (a : AskR) (vn : AV) : AV := if hasF a.ty 108 then vn else .nilsl
def AskR.ownD (a : AskR) (vd : AV) : AV := if hasF a.ty 100 then vd else .nilsl
theorem AskR.own_th {a : AskR} {vn : AV} (h : TH H vn a.names) : TH H (a.ownN vn) a.own.names := by
  show TH H (if hasF a.ty 108 then vn else .nilsl) (if hasF a.ty 108 then a.names else [])
  split
  · exact h
  · exact TH.nil
theorem AskR.own_oh {a : AskR} {vn : AV} (h : OH H vn 9 1 (a.names.map AV.str) a.names.length) : OH H (a.ownN vn) 9 1 (a.own.names.map AV.str) a.own.names.length := by
  show OH H (if hasF a.ty 108 then vn else .nilsl) 9 1 ((if hasF a.ty 108 then a.names else []).map AV.str) (if hasF a.ty 108 then a.names else []).length
  split
  · exact h
  · exact OH.nil
theorem AskR.own_bh {a : AskR} {vd : AV} (h : BH H vd a.data) : BH H (a.ownD vd) a.own.data := by
  show BH H (if hasF a.ty 100 then vd else .nilsl) (if hasF a.ty 100 then a.data else [])
  split
  · exact h
  · exact BH.nil
theorem AskR.ownN_loc {a : AskR} {vn : AV} {k : Nat} (h : (a.ownN vn).loc k) : vn.loc k := by
  unfold AskR.ownN at h; split at h
  · exact h
  · exact h.elim
theorem AskR.ownD_loc {a : AskR} {vn : AV} {k : Nat} (h : (a.ownD vn).loc k) : vn.loc k := by
  unfold AskR.ownD at h; split at h
  · exact h
  · exact h.elim
theorem own92 {a : AskR} {vn vd : AV} (hn : TH H vn a.names) (hd : BH H vd a.data) : AC Try.prog 92 [.agg (a.cells vn vd)] ⟨H, S⟩ (fun v M' => v = .agg (AskR.cells a.own (a.ownN vn) (a.ownD vd)) ∧ M' = ⟨H, S⟩) := by
  refine AC_of_WE Try.func92 rfl ?_
  simp only [Try.ntmps92, List.length_cons, List.length_nil, List.replicate, List.cons_append, List.nil_append, mem_enter]
  have c11 := fun b : AskR => cells_st2 b hn.one.1 hd.one.1
  have c00 := fun b : AskR => cells_st2 b (vn := .nilsl) (vd := .nilsl) rfl rfl
  have c10 := fun b : AskR => cells_st2 b (vn := vn) (vd := .nilsl) hn.one.1 rfl
  have c01 := fun b : AskR => cells_st2 b (vn := .nilsl) (vd := vd) rfl hd.one.1
  (repeat refine W_seq ?_); refine W_regionT [] ?_
  simp only [go_sem, kboxL (c11 a), kallocL, List.nil_append, List.cons_append, List.length_nil, List.length_cons, Nat.zero_add, Nat.reduceAdd]
  (repeat refine W_seq ?_); refine W_regionT [] ?_
  simp only [go_sem, ka0_0, ka1_0, ka2_0, ka3_0, ka4_0, ka5_0, ka6_0, ka7_0, ka8_0, ka9_0, ka10_0, ka11_0, ka12_0, ka13_0, kl0_0, kl1_0, kl2_0, kl3_0, kl4_0, kl5_0, kl6_0, kl7_0, kl8_0, kl9_0, kl10_0, kl11_0, kl12_0, kl13_0, kL_0]
  (repeat refine W_seq ?_); refine W_regionT [] ?_
  simp only [go_sem, bld2, kallocL, kS_2 (c00 _), ka0_0, ka1_0, ka2_0, ka3_0, ka4_0, ka5_0, ka6_0, ka7_0, ka8_0, ka9_0, ka10_0, ka11_0, ka12_0, ka13_0, kl0_0, kl1_0, kl2_0, kl3_0, kl4_0, kl5_0, kl6_0, kl7_0, kl8_0, kl9_0, kl10_0, kl11_0, kl12_0, kl13_0, kL_0, List.nil_append, List.cons_append, List.length_nil, List.length_cons, Nat.zero_add, Nat.reduceAdd]
  (repeat refine W_seq ?_); refine W_regionT [] ?_
  simp only [go_sem, ka2_0, kl2_0, ka2_2, ks2_2]
  refine AT_call rfl rfl (keep126 102) fun v M1 hd1 h1 => ?_
  obtain ⟨hv, hM⟩ := h1; subst hv; subst hM
  simp only [go_sem, ka2_2, ks2_2]
  (repeat refine W_seq ?_); refine W_regionT [] ?_
  simp only [go_sem, ka3_0, kl3_0, ka3_2, ks3_2]
  refine AT_call rfl rfl (keep126 119) fun v M1 hd1 h1 => ?_
  obtain ⟨hv, hM⟩ := h1; subst hv; subst hM
  simp only [go_sem, ka3_2, ks3_2]
  (repeat refine W_seq ?_); refine W_regionT [] ?_
  simp only [go_sem, ka4_0, kl4_0, ka4_2, ks4_2]
  refine AT_call rfl rfl (keep126 116) fun v M1 hd1 h1 => ?_
  obtain ⟨hv, hM⟩ := h1; subst hv; subst hM
  simp only [go_sem, ka4_2, ks4_2]
  (repeat refine W_seq ?_); refine W_regionT [] ?_
  simp only [go_sem, ka5_0, kl5_0, ka5_2, ks5_2]
  refine AT_call rfl rfl (keep126 122) fun v M1 hd1 h1 => ?_
  obtain ⟨hv, hM⟩ := h1; subst hv; subst hM
  simp only [go_sem, ka5_2, ks5_2]
  (repeat refine W_seq ?_); refine W_regionT [] ?_
  simp only [go_sem, ka6_0, kl6_0, ka6_2, ks6_2]
  refine AT_call rfl rfl (keep126 109) fun v M1 hd1 h1 => ?_
  obtain ⟨hv, hM⟩ := h1; subst hv; subst hM
  simp only [go_sem, ka6_2, ks6_2]
  (repeat refine W_seq ?_); refine W_regionT [] ?_
  simp only [go_sem, ka7_0, kl7_0, ka7_2, ks7_2]
  refine AT_call rfl rfl (keep126 112) fun v M1 hd1 h1 => ?_
  obtain ⟨hv, hM⟩ := h1; subst hv; subst hM
  simp only [go_sem, ka7_2, ks7_2]
  (repeat refine W_seq ?_); refine W_regionT [] ?_
  simp only [go_sem, ka8_0, kl8_0, ka8_2, ks8_2]
  refine AT_call rfl rfl (keep126 111) fun v M1 hd1 h1 => ?_
  obtain ⟨hv, hM⟩ := h1; subst hv; subst hM
  simp only [go_sem, ka8_2, ks8_2]
  (repeat refine W_seq ?_); refine W_regionT [] ?_
  simp only [go_sem, ka9_0, kl9_0, ka9_2, ks9_2]
  refine AT_call rfl rfl (keep126 99) fun v M1 hd1 h1 => ?_
  obtain ⟨hv, hM⟩ := h1; subst hv; subst hM
  simp only [go_sem, ka9_2, ks9_2]
  (repeat refine W_seq ?_); refine W_regionT [] ?_
  simp only [go_sem, ka12_0, kl12_0, ka12_2, ks12_2]
  refine AT_call rfl rfl (keep126 115) fun v M1 hd1 h1 => ?_
  obtain ⟨hv, hM⟩ := h1; subst hv; subst hM
  simp only [go_sem, ka12_2, ks12_2]
  (repeat refine W_seq ?_); refine W_regionT [] ?_
  simp only [go_sem]
  refine AT_call rfl rfl (has127 110) fun v M1 hd1 h1 => ?_
  obtain ⟨hv, hM⟩ := h1; subst hv; subst hM
  simp only [go_sem]
  (repeat refine W_seq ?_)
  refine W_cond_if rfl (fun hb => ?_) (fun hb => ?_)
  · have hn0 := hb
    (repeat refine W_seq ?_); refine W_regionT [] ?_
    simp only [go_sem, ka10_0, kl10_0, ka10_2, ks10_2]
    (repeat refine W_seq ?_); refine W_regionT [] ?_
    simp only [go_sem]
    refine AT_call rfl rfl (has127 108) fun v M1 hd1 h1 => ?_
    obtain ⟨hv, hM⟩ := h1; subst hv; subst hM
    simp only [go_sem]
    (repeat refine W_seq ?_)
    refine W_cond_if rfl (fun hb => ?_) (fun hb => ?_)
    · have hn1 := hb
      (repeat refine W_seq ?_); refine W_regionT [] ?_
      simp only [go_sem, ka11_0, kl11_0, ka11_2, ks11_2 hn.one.1 hn.one.2]
      (repeat refine W_seq ?_); refine W_regionT [] ?_
      simp only [go_sem]
      refine AT_call rfl rfl (has127 100) fun v M1 hd1 h1 => ?_
      obtain ⟨hv, hM⟩ := h1; subst hv; subst hM
      simp only [go_sem]
      (repeat refine W_seq ?_)
      refine W_cond_if rfl (fun hb => ?_) (fun hb => ?_)
      · have hn2 := hb
        (repeat refine W_seq ?_); refine W_regionT [] ?_
        simp only [go_sem, ka13_0, kl13_0, ka13_2, ks13_2 hd.one.1 hd.one.2]
        (repeat refine W_seq ?_); refine W_regionT [] ?_
        simp only [go_sem, kL_2, kS_1 (c00 _), kS_1 (c10 _), kS_1 (c01 _), kS_1 (c11 _)]
        refine W_ret ⟨.inr rfl, [.agg (AskR.cells a.own vn vd)], ?_, ?_, ?_, rfl⟩
        · show (match loadA Try.prog 72 (.ptr ⟨S.length + 1, 1, 0⟩) _, resE Try.prog _ _ [] with | some v, some vs => some (v :: vs) | _, _ => none) = _
          rw [kL_1]
          unfold AskR.own
          simp only [hn0, hn1, hn2, if_true, Bool.false_eq_true, if_false]
          rfl
        · show (AV.agg _).lev0 = true
          have e : lev0s (AskR.cells a.own vn vd) = true := cells_lev hn.lev0' hd.lev0'
          simp only [AV.lev0, e]
        · unfold AskR.ownN AskR.ownD
          simp only [hn1, hn2, if_true, Bool.false_eq_true, if_false]
          rfl
      · have hn2 := hb
        refine W_skip ?_
        simp only [go_sem]
        (repeat refine W_seq ?_); refine W_regionT [] ?_
        simp only [go_sem, kL_2, kS_1 (c00 _), kS_1 (c10 _), kS_1 (c01 _), kS_1 (c11 _)]
        refine W_ret ⟨.inr rfl, [.agg (AskR.cells a.own vn .nilsl)], ?_, ?_, ?_, rfl⟩
        · show (match loadA Try.prog 72 (.ptr ⟨S.length + 1, 1, 0⟩) _, resE Try.prog _ _ [] with | some v, some vs => some (v :: vs) | _, _ => none) = _
          rw [kL_1]
          unfold AskR.own
          simp only [hn0, hn1, hn2, if_true, Bool.false_eq_true, if_false]
          rfl
        · show (AV.agg _).lev0 = true
          have e : lev0s (AskR.cells a.own vn .nilsl) = true := cells_lev hn.lev0' rfl
          simp only [AV.lev0, e]
        · unfold AskR.ownN AskR.ownD
          simp only [hn1, hn2, if_true, Bool.false_eq_true, if_false]
          rfl
    · have hn1 := hb
      refine W_skip ?_
      simp only [go_sem]
      (repeat refine W_seq ?_); refine W_regionT [] ?_
      simp only [go_sem]
      refine AT_call rfl rfl (has127 100) fun v M1 hd1 h1 => ?_
      obtain ⟨hv, hM⟩ := h1; subst hv; subst hM
      simp only [go_sem]
      (repeat refine W_seq ?_)
      refine W_cond_if rfl (fun hb => ?_) (fun hb => ?_)
      · have hn2 := hb
        (repeat refine W_seq ?_); refine W_regionT [] ?_
        simp only [go_sem, ka13_0, kl13_0, ka13_2, ks13_2 hd.one.1 hd.one.2]
        (repeat refine W_seq ?_); refine W_regionT [] ?_
        simp only [go_sem, kL_2, kS_1 (c00 _), kS_1 (c10 _), kS_1 (c01 _), kS_1 (c11 _)]
        refine W_ret ⟨.inr rfl, [.agg (AskR.cells a.own .nilsl vd)], ?_, ?_, ?_, rfl⟩
        · show (match loadA Try.prog 72 (.ptr ⟨S.length + 1, 1, 0⟩) _, resE Try.prog _ _ [] with | some v, some vs => some (v :: vs) | _, _ => none) = _
          rw [kL_1]
          unfold AskR.own
          simp only [hn0, hn1, hn2, if_true, Bool.false_eq_true, if_false]
          rfl
        · show (AV.agg _).lev0 = true
          have e : lev0s (AskR.cells a.own .nilsl vd) = true := cells_lev rfl hd.lev0'
          simp only [AV.lev0, e]
        · unfold AskR.ownN AskR.ownD
          simp only [hn1, hn2, if_true, Bool.false_eq_true, if_false]
          rfl
      · have hn2 := hb
        refine W_skip ?_
        simp only [go_sem]
        (repeat refine W_seq ?_); refine W_regionT [] ?_
        simp only [go_sem, kL_2, kS_1 (c00 _), kS_1 (c10 _), kS_1 (c01 _), kS_1 (c11 _)]
        refine W_ret ⟨.inr rfl, [.agg (AskR.cells a.own .nilsl .nilsl)], ?_, ?_, ?_, rfl⟩
        · show (match loadA Try.prog 72 (.ptr ⟨S.length + 1, 1, 0⟩) _, resE Try.prog _ _ [] with | some v, some vs => some (v :: vs) | _, _ => none) = _
          rw [kL_1]
          unfold AskR.own
          simp only [hn0, hn1, hn2, if_true, Bool.false_eq_true, if_false]
          rfl
        · show (AV.agg _).lev0 = true
          have e : lev0s (AskR.cells a.own .nilsl .nilsl) = true := cells_lev rfl rfl
          simp only [AV.lev0, e]
        · unfold AskR.ownN AskR.ownD
          simp only [hn1, hn2, if_true, Bool.false_eq_true, if_false]
          rfl
  · have hn0 := hb
    refine W_skip ?_
    simp only [go_sem]
    (repeat refine W_seq ?_); refine W_regionT [] ?_
    simp only [go_sem]
    refine AT_call rfl rfl (has127 108) fun v M1 hd1 h1 => ?_
    obtain ⟨hv, hM⟩ := h1; subst hv; subst hM
    simp only [go_sem]
    (repeat refine W_seq ?_)
    refine W_cond_if rfl (fun hb => ?_) (fun hb => ?_)
    · have hn1 := hb
      (repeat refine W_seq ?_); refine W_regionT [] ?_
      simp only [go_sem, ka11_0, kl11_0, ka11_2, ks11_2 hn.one.1 hn.one.2]
      (repeat refine W_seq ?_); refine W_regionT [] ?_
      simp only [go_sem]
      refine AT_call rfl rfl (has127 100) fun v M1 hd1 h1 => ?_
      obtain ⟨hv, hM⟩ := h1; subst hv; subst hM
      simp only [go_sem]
      (repeat refine W_seq ?_)
      refine W_cond_if rfl (fun hb => ?_) (fun hb => ?_)
      · have hn2 := hb
        (repeat refine W_seq ?_); refine W_regionT [] ?_
        simp only [go_sem, ka13_0, kl13_0, ka13_2, ks13_2 hd.one.1 hd.one.2]
        (repeat refine W_seq ?_); refine W_regionT [] ?_
        simp only [go_sem, kL_2, kS_1 (c00 _), kS_1 (c10 _), kS_1 (c01 _), kS_1 (c11 _)]
        refine W_ret ⟨.inr rfl, [.agg (AskR.cells a.own vn vd)], ?_, ?_, ?_, rfl⟩
        · show (match loadA Try.prog 72 (.ptr ⟨S.length + 1, 1, 0⟩) _, resE Try.prog _ _ [] with | some v, some vs => some (v :: vs) | _, _ => none) = _
          rw [kL_1]
          unfold AskR.own
          simp only [hn0, hn1, hn2, if_true, Bool.false_eq_true, if_false]
          rfl
        · show (AV.agg _).lev0 = true
          have e : lev0s (AskR.cells a.own vn vd) = true := cells_lev hn.lev0' hd.lev0'
          simp only [AV.lev0, e]
        · unfold AskR.ownN AskR.ownD
          simp only [hn1, hn2, if_true, Bool.false_eq_true, if_false]
          rfl
      · have hn2 := hb
        refine W_skip ?_
        simp only [go_sem]
        (repeat refine W_seq ?_); refine W_regionT [] ?_
        simp only [go_sem, kL_2, kS_1 (c00 _), kS_1 (c10 _), kS_1 (c01 _), kS_1 (c11 _)]
        refine W_ret ⟨.inr rfl, [.agg (AskR.cells a.own vn .nilsl)], ?_, ?_, ?_, rfl⟩
        · show (match loadA Try.prog 72 (.ptr ⟨S.length + 1, 1, 0⟩) _, resE Try.prog _ _ [] with | some v, some vs => some (v :: vs) | _, _ => none) = _
          rw [kL_1]
          unfold AskR.own
          simp only [hn0, hn1, hn2, if_true, Bool.false_eq_true, if_false]
          rfl
        · show (AV.agg _).lev0 = true
          have e : lev0s (AskR.cells a.own vn .nilsl) = true := cells_lev hn.lev0' rfl
          simp only [AV.lev0, e]
        · unfold AskR.ownN AskR.ownD
          simp only [hn1, hn2, if_true, Bool.false_eq_true, if_false]
          rfl
    · have hn1 := hb
      refine W_skip ?_
      simp only [go_sem]
      (repeat refine W_seq ?_); refine W_regionT [] ?_
      simp only [go_sem]
      refine AT_call rfl rfl (has127 100) fun v M1 hd1 h1 => ?_
      obtain ⟨hv, hM⟩ := h1; subst hv; subst hM
      simp only [go_sem]
      (repeat refine W_seq ?_)
      refine W_cond_if rfl (fun hb => ?_) (fun hb => ?_)
      · have hn2 := hb
        (repeat refine W_seq ?_); refine W_regionT [] ?_
        simp only [go_sem, ka13_0, kl13_0, ka13_2, ks13_2 hd.one.1 hd.one.2]
        (repeat refine W_seq ?_); refine W_regionT [] ?_
        simp only [go_sem, kL_2, kS_1 (c00 _), kS_1 (c10 _), kS_1 (c01 _), kS_1 (c11 _)]
        refine W_ret ⟨.inr rfl, [.agg (AskR.cells a.own .nilsl vd)], ?_, ?_, ?_, rfl⟩
        · show (match loadA Try.prog 72 (.ptr ⟨S.length + 1, 1, 0⟩) _, resE Try.prog _ _ [] with | some v, some vs => some (v :: vs) | _, _ => none) = _
          rw [kL_1]
          unfold AskR.own
          simp only [hn0, hn1, hn2, if_true, Bool.false_eq_true, if_false]
          rfl
        · show (AV.agg _).lev0 = true
          have e : lev0s (AskR.cells a.own .nilsl vd) = true := cells_lev rfl hd.lev0'
          simp only [AV.lev0, e]
        · unfold AskR.ownN AskR.ownD
          simp only [hn1, hn2, if_true, Bool.false_eq_true, if_false]
          rfl
      · have hn2 := hb
        refine W_skip ?_
        simp only [go_sem]
        (repeat refine W_seq ?_); refine W_regionT [] ?_
        simp only [go_sem, kL_2, kS_1 (c00 _), kS_1 (c10 _), kS_1 (c01 _), kS_1 (c11 _)]
        refine W_ret ⟨.inr rfl, [.agg (AskR.cells a.own .nilsl .nilsl)], ?_, ?_, ?_, rfl⟩
        · show (match loadA Try.prog 72 (.ptr ⟨S.length + 1, 1, 0⟩) _, resE Try.prog _ _ [] with | some v, some vs => some (v :: vs) | _, _ => none) = _
          rw [kL_1]
          unfold AskR.own
          simp only [hn0, hn1, hn2, if_true, Bool.false_eq_true, if_false]
          rfl
        · show (AV.agg _).lev0 = true
          have e : lev0s (AskR.cells a.own .nilsl .nilsl) = true := cells_lev rfl rfl
          simp only [AV.lev0, e]
        · unfold AskR.ownN AskR.ownD
          simp only [hn1, hn2, if_true, Bool.false_eq_true, if_false]
          rfl
end
end Go.Proofs.Ytlpcbfndjffpfaa
