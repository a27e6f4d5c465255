/- The walk of few, putQids, the reference's May and Bytes (18), and of TellMay. -/
import Derived.Test.YtlpcbfndjffpfaaTellSames
import Derived.Test.YtlpcbfndjffpfaaAbs33
set_option maxRecDepth 100000
set_option maxHeartbeats 4000000
set_option linter.unusedSimpArgs false
set_option linter.unusedVariables false
namespace Go.Proofs.Ytlpcbfndjffpfaa
open Go.Abs
def TellR.fieldB (a : TellR) (f : UInt8) : List UInt8 := if f = 122 then le (u32 a.msize) 4 else if f = 110 then le a.name.length 2 ++ a.name else if f = 113 then a.q.bytes else if f = 101 then le (u16 a.code) 2 else if f = 105 then le (u32 a.iounit) 4 else if f = 100 then le a.data.length 4 ++ a.data else if f = 99 then le (u32 a.count) 4 else if f = 115 then a.s.q.bytes ++ le (u32 a.s.mode) 4 ++ le (u64 a.s.size) 8 ++ (le a.s.name.length 2 ++ a.s.name) else if f = 108 then qidsB a.qids else []
theorem tkinds {n : Int} (h : tknown n = true) : n = 101 ∨ n = 105 ∨ n = 107 ∨ n = 109 ∨ n = 111 ∨ n = 113 ∨ n = 115 ∨ n = 117 ∨ n = 119 ∨ n = 121 ∨ n = 123 ∨ n = 125 ∨ n = 127 := by
  by_cases hk : n = 101 ∨ n = 105 ∨ n = 107 ∨ n = 109 ∨ n = 111 ∨ n = 113 ∨ n = 115 ∨ n = 117 ∨ n = 119 ∨ n = 121 ∨ n = 123 ∨ n = 125 ∨ n = 127
  · exact hk
  · simp only [not_or] at hk
    obtain ⟨h101, h105, h107, h109, h111, h113, h115, h117, h119, h121, h123, h125, h127⟩ := hk
    unfold tknown at h
    rw [tkind_no h101 h105 h107 h109 h111 h113 h115 h117 h119 h121 h123 h125 h127] at h
    exact absurd h (by decide)
theorem tfields_none {n : Int} : (tfieldsOf n == []) = !tknown n := by
  by_cases hk : n = 101 ∨ n = 105 ∨ n = 107 ∨ n = 109 ∨ n = 111 ∨ n = 113 ∨ n = 115 ∨ n = 117 ∨ n = 119 ∨ n = 121 ∨ n = 123 ∨ n = 125 ∨ n = 127
  · rcases hk with rfl | rfl | rfl | rfl | rfl | rfl | rfl | rfl | rfl | rfl | rfl | rfl | rfl <;> rfl
  · simp only [not_or] at hk
    obtain ⟨h101, h105, h107, h109, h111, h113, h115, h117, h119, h121, h123, h125, h127⟩ := hk
    unfold tknown
    rw [tfields_no h101 h105 h107 h109 h111 h113 h115 h117 h119 h121 h123 h125 h127, tkind_no h101 h105 h107 h109 h111 h113 h115 h117 h119 h121 h123 h125 h127]; rfl
theorem tbodyF101 {a : TellR} (h : a.ty = 101) : (tfieldsOf a.ty).flatMap a.fieldB = a.body := by
  rw [tbody2 (show tkind a.ty = 2 by rw [h]; rfl), show tfieldsOf a.ty = [122, 110] by rw [h]; rfl]
  simp [TellR.fieldB, List.append_assoc]
theorem tbodyF105 {a : TellR} (h : a.ty = 105) : (tfieldsOf a.ty).flatMap a.fieldB = a.body := by
  rw [tbody3 (show tkind a.ty = 3 by rw [h]; rfl), show tfieldsOf a.ty = [113] by rw [h]; rfl]
  simp [TellR.fieldB, List.append_assoc]
theorem tbodyF107 {a : TellR} (h : a.ty = 107) : (tfieldsOf a.ty).flatMap a.fieldB = a.body := by
  rw [tbody4 (show tkind a.ty = 4 by rw [h]; rfl), show tfieldsOf a.ty = [101] by rw [h]; rfl]
  simp [TellR.fieldB, List.append_assoc]
theorem tbodyF109 {a : TellR} (h : a.ty = 109) : (tfieldsOf a.ty).flatMap a.fieldB = a.body := by
  rw [tbody0 (show ¬ tkind a.ty = 2 by rw [h]; decide) (show ¬ tkind a.ty = 3 by rw [h]; decide) (show ¬ tkind a.ty = 4 by rw [h]; decide) (show ¬ tkind a.ty = 5 by rw [h]; decide) (show ¬ tkind a.ty = 6 by rw [h]; decide) (show ¬ tkind a.ty = 7 by rw [h]; decide) (show ¬ tkind a.ty = 8 by rw [h]; decide) (show ¬ tkind a.ty = 9 by rw [h]; decide), show tfieldsOf a.ty = [45] by rw [h]; rfl]
  simp [TellR.fieldB, List.append_assoc]
theorem tbodyF111 {a : TellR} (h : a.ty = 111) : (tfieldsOf a.ty).flatMap a.fieldB = a.body := by
  rw [tbody5 (show tkind a.ty = 5 by rw [h]; rfl), show tfieldsOf a.ty = [108] by rw [h]; rfl]
  simp [TellR.fieldB, List.append_assoc]
theorem tbodyF113 {a : TellR} (h : a.ty = 113) : (tfieldsOf a.ty).flatMap a.fieldB = a.body := by
  rw [tbody6 (show tkind a.ty = 6 by rw [h]; rfl), show tfieldsOf a.ty = [113, 105] by rw [h]; rfl]
  simp [TellR.fieldB, List.append_assoc]
theorem tbodyF115 {a : TellR} (h : a.ty = 115) : (tfieldsOf a.ty).flatMap a.fieldB = a.body := by
  rw [tbody6 (show tkind a.ty = 6 by rw [h]; rfl), show tfieldsOf a.ty = [113, 105] by rw [h]; rfl]
  simp [TellR.fieldB, List.append_assoc]
theorem tbodyF117 {a : TellR} (h : a.ty = 117) : (tfieldsOf a.ty).flatMap a.fieldB = a.body := by
  rw [tbody7 (show tkind a.ty = 7 by rw [h]; rfl), show tfieldsOf a.ty = [100] by rw [h]; rfl]
  simp [TellR.fieldB, List.append_assoc]
theorem tbodyF119 {a : TellR} (h : a.ty = 119) : (tfieldsOf a.ty).flatMap a.fieldB = a.body := by
  rw [tbody8 (show tkind a.ty = 8 by rw [h]; rfl), show tfieldsOf a.ty = [99] by rw [h]; rfl]
  simp [TellR.fieldB, List.append_assoc]
theorem tbodyF121 {a : TellR} (h : a.ty = 121) : (tfieldsOf a.ty).flatMap a.fieldB = a.body := by
  rw [tbody0 (show ¬ tkind a.ty = 2 by rw [h]; decide) (show ¬ tkind a.ty = 3 by rw [h]; decide) (show ¬ tkind a.ty = 4 by rw [h]; decide) (show ¬ tkind a.ty = 5 by rw [h]; decide) (show ¬ tkind a.ty = 6 by rw [h]; decide) (show ¬ tkind a.ty = 7 by rw [h]; decide) (show ¬ tkind a.ty = 8 by rw [h]; decide) (show ¬ tkind a.ty = 9 by rw [h]; decide), show tfieldsOf a.ty = [45] by rw [h]; rfl]
  simp [TellR.fieldB, List.append_assoc]
theorem tbodyF123 {a : TellR} (h : a.ty = 123) : (tfieldsOf a.ty).flatMap a.fieldB = a.body := by
  rw [tbody0 (show ¬ tkind a.ty = 2 by rw [h]; decide) (show ¬ tkind a.ty = 3 by rw [h]; decide) (show ¬ tkind a.ty = 4 by rw [h]; decide) (show ¬ tkind a.ty = 5 by rw [h]; decide) (show ¬ tkind a.ty = 6 by rw [h]; decide) (show ¬ tkind a.ty = 7 by rw [h]; decide) (show ¬ tkind a.ty = 8 by rw [h]; decide) (show ¬ tkind a.ty = 9 by rw [h]; decide), show tfieldsOf a.ty = [45] by rw [h]; rfl]
  simp [TellR.fieldB, List.append_assoc]
theorem tbodyF125 {a : TellR} (h : a.ty = 125) : (tfieldsOf a.ty).flatMap a.fieldB = a.body := by
  rw [tbody9 (show tkind a.ty = 9 by rw [h]; rfl), show tfieldsOf a.ty = [115] by rw [h]; rfl]
  simp [TellR.fieldB, List.append_assoc]
theorem tbodyF127 {a : TellR} (h : a.ty = 127) : (tfieldsOf a.ty).flatMap a.fieldB = a.body := by
  rw [tbody0 (show ¬ tkind a.ty = 2 by rw [h]; decide) (show ¬ tkind a.ty = 3 by rw [h]; decide) (show ¬ tkind a.ty = 4 by rw [h]; decide) (show ¬ tkind a.ty = 5 by rw [h]; decide) (show ¬ tkind a.ty = 6 by rw [h]; decide) (show ¬ tkind a.ty = 7 by rw [h]; decide) (show ¬ tkind a.ty = 8 by rw [h]; decide) (show ¬ tkind a.ty = 9 by rw [h]; decide), show tfieldsOf a.ty = [45] by rw [h]; rfl]
  simp [TellR.fieldB, List.append_assoc]
theorem tbodyF {a : TellR} (h : tknown a.ty = true) : (tfieldsOf a.ty).flatMap a.fieldB = a.body := by
  rcases tkinds h with h | h | h | h | h | h | h | h | h | h | h | h | h
  · exact tbodyF101 h
  · exact tbodyF105 h
  · exact tbodyF107 h
  · exact tbodyF109 h
  · exact tbodyF111 h
  · exact tbodyF113 h
  · exact tbodyF115 h
  · exact tbodyF117 h
  · exact tbodyF119 h
  · exact tbodyF121 h
  · exact tbodyF123 h
  · exact tbodyF125 h
  · exact tbodyF127 h
theorem tfieldB_len {a : TellR} (fit : a.Fit) {f : UInt8} : (a.fieldB f).length ≤ 3000 := by
  have f1 := fit.n
  have f2 := fit.s
  have f3 := fit.l
  have f4 := fit.d
  have f5 := qids_len a.qids
  unfold TellR.fieldB
  by_cases h122 : f = 122
  · rw [if_pos h122]; (try unfold qidsB); simp only [List.length_append, le_length, qid_len]; omega
  rw [if_neg h122]
  by_cases h110 : f = 110
  · rw [if_pos h110]; (try unfold qidsB); simp only [List.length_append, le_length, qid_len]; omega
  rw [if_neg h110]
  by_cases h113 : f = 113
  · rw [if_pos h113]; (try unfold qidsB); simp only [List.length_append, le_length, qid_len]; omega
  rw [if_neg h113]
  by_cases h101 : f = 101
  · rw [if_pos h101]; (try unfold qidsB); simp only [List.length_append, le_length, qid_len]; omega
  rw [if_neg h101]
  by_cases h105 : f = 105
  · rw [if_pos h105]; (try unfold qidsB); simp only [List.length_append, le_length, qid_len]; omega
  rw [if_neg h105]
  by_cases h100 : f = 100
  · rw [if_pos h100]; (try unfold qidsB); simp only [List.length_append, le_length, qid_len]; omega
  rw [if_neg h100]
  by_cases h99 : f = 99
  · rw [if_pos h99]; (try unfold qidsB); simp only [List.length_append, le_length, qid_len]; omega
  rw [if_neg h99]
  by_cases h115 : f = 115
  · rw [if_pos h115]; (try unfold qidsB); simp only [List.length_append, le_length, qid_len]; omega
  rw [if_neg h115]
  by_cases h108 : f = 108
  · rw [if_pos h108]; (try unfold qidsB); simp only [List.length_append, le_length, qid_len]; omega
  rw [if_neg h108]
  simp
theorem tflat_len {a : TellR} (fit : a.Fit) : ∀ (l : List UInt8), (l.flatMap a.fieldB).length ≤ 3000 * l.length
  | [] => by simp
  | f :: l => by
    have h1 := tflat_len fit l
    have h2 := tfieldB_len fit (f := f)
    rw [List.flatMap_cons, List.length_append, List.length_cons]; omega
theorem tflat_succ {a : TellR} {l : List UInt8} {i : Nat} (h : i < l.length) : (l.take (i + 1)).flatMap a.fieldB = (l.take i).flatMap a.fieldB ++ a.fieldB l[i] := by
  rw [List.take_add_one, List.getElem?_eq_getElem h, Option.toList_some, List.flatMap_append, List.flatMap_singleton]
theorem qflat_succ {l : List QidR} {i : Nat} (h : i < l.length) : (l.take (i + 1)).flatMap QidR.bytes = (l.take i).flatMap QidR.bytes ++ l[i].bytes := by
  rw [List.take_add_one, List.getElem?_eq_getElem h, Option.toList_some, List.flatMap_append, List.flatMap_singleton]
theorem TellR.may_ok {a : TellR} (h : a.may = true) : ∀ q ∈ a.q :: a.s.q :: a.qids, q.ok = true := by
  unfold TellR.may at h
  simp only [Bool.and_eq_true, Bool.not_eq_true', List.any_eq_false] at h
  intro q hq
  have := h.1.1.1.1.1.1.1.1.1.2 q hq
  simpa using this
section
variable {H H' : List Block} {S : List (List Block)} {F : List Block} {M' : Mem} {b : AV} {l : List UInt8}
theorem min10 {n : Int} : minA [.int .i64 n, .int .i64 10] = some (.int .i64 (if 10 < n then 10 else n)) := rfl
theorem ql_take {v : AV} {l : List QidR} {m : Nat} (h : QL H v l) (hm : m ≤ l.length) : ∃ v', slices Try.prog 86 v none (some (.int .i64 m)) none ⟨H, S⟩ = some v' ∧ RH H v' 3 ((l.take m).flatMap QidR.cells) (l.take m).length := by
  obtain ⟨v', h1, h2, _⟩ := cut_rh (P := Try.prog) (S := S) (lo := none) (hi' := some (.int .i64 (m : Int))) (l := 0) (u := m) h.1 ti86 rfl ti85 rfl rfl (by simp [onat, natOf]) (Nat.zero_le _) hm
  refine ⟨v', h1, ?_⟩
  rw [List.length_take, Nat.min_eq_left hm]
  rw [Nat.zero_mul, List.drop_zero, Nat.sub_zero] at h2
  have e : (l.flatMap QidR.cells).take (m * 3) = (l.take m).flatMap QidR.cells := by
    have hl := flat_len_eq (f := QidR.cells) (m := 3) (fun _ => rfl) (l.take m)
    rw [List.length_take, Nat.min_eq_left hm] at hl
    conv => lhs; rw [← List.take_append_drop m l, List.flatMap_append]
    rw [List.take_append_of_le_length (by omega), List.take_of_length_le (by omega)]
  rw [← e]; exact h2
theorem q_app {x : AV} {l : List QidR} (h : RH H x 3 (l.flatMap QidR.cells) l.length) (hl : l.length < 1000000) : ∃ v' H', appendA Try.prog 86 86 true .nilsl x ⟨H, S⟩ = some (v', ⟨H', S⟩) ∧ OH H' v' 85 3 (l.flatMap QidR.cells) l.length ∧ UpdH no H H' ∧ ∀ k, v'.loc k → H.length ≤ k := by
  obtain ⟨v', H', a1, a2, a3, a4⟩ := appH (S := S) ti86 rfl ti85 ti86 rfl rfl ⟨by decide, by decide, rfl, rfl⟩ (OH.nil (H := H)) (content_rh h) (q_all l) (by show (0 + l.length) * 24 ≤ _; omega)
  refine ⟨v', H', a1, ?_, a3.mono (fun k _ h => h.elim), fun k hk => (a4 k hk).elim (fun h => h.elim) id⟩
  rw [List.nil_append, Nat.zero_add] at a2
  exact a2
theorem tfew60 {a : TellR} {vn vd : AV} (hn : QL H vn a.qids) (hd : BH H vd a.data) : AC Try.prog 60 [.agg (a.cells vn vd)] ⟨H, S⟩ (fun v M' => ∃ H', M' = ⟨H', S⟩ ∧ UpdH no H H' ∧ TellO H' H.length v a.few) := by
  refine AC_of_WE Try.func60 rfl ?_
  simp only [Try.ntmps60, List.length_cons, List.length_nil, List.replicate, List.cons_append, List.nil_append, mem_enter]
  have c11 := fun b : TellR => tcells_st b hn.one.1 hd.one.1
  (repeat refine W_seq ?_); refine W_regionT [] ?_
  simp only [go_sem, wboxL (c11 a), wallocL, List.nil_append, List.cons_append, List.length_nil, List.length_cons, Nat.zero_add, Nat.reduceAdd]
  (repeat refine W_seq ?_); refine W_regionT [] ?_
  simp only [go_sem, wa6_0, wl6_0, ws6_0]
  refine AT_call rfl rfl (short89 (n := 300)) fun v M1 hd1 h1 => ?_
  obtain ⟨hv, hM⟩ := h1; subst hv; subst hM
  simp only [go_sem, wa6_0, ws6_0]
  (repeat refine W_seq ?_); refine W_regionT [] ?_
  simp only [go_sem, wa10_0, wa88_17_0, wl17_0]
  refine AT_call rfl rfl (short89 (n := 300)) fun v M1 hd1 h1 => ?_
  obtain ⟨hv, hM⟩ := h1; subst hv; subst hM
  simp only [go_sem, wa10_0, wa88_17_0, ws17_0]
  (repeat refine W_seq ?_); refine W_regionT [] ?_
  simp only [go_sem]
  obtain ⟨v1, hc1, hr1⟩ := ql_take (S := [Block.row ⟨90, 18, TellR.cells { a with name := a.name.take 300, s := { a.s with name := a.s.name.take 300 } } vn vd, false, false⟩, Block.row ⟨90, 18, TellR.cells TellR.z .nilsl .nilsl, false, false⟩] :: S) (m := min a.qids.length 10) hn (Nat.min_le_left _ _)
  rw [take_min] at hr1
  obtain ⟨v2, G2, hap, oh2, u2, l2⟩ := q_app (S := [Block.row ⟨90, 18, TellR.cells { a with name := a.name.take 300, s := { a.s with name := a.s.name.take 300 } } vn vd, false, false⟩, Block.row ⟨90, 18, TellR.cells TellR.z .nilsl .nilsl, false, false⟩] :: S) hr1 (by simp; omega)
  have hmin : (if 10 < (a.qids.length : Int) then 10 else (a.qids.length : Int)) = ((min a.qids.length 10 : Nat) : Int) := by split <;> omega
  (repeat refine W_seq ?_); refine W_regionT [22] ?_
  simp only [go_sem, wa8_0, wl10_0, hn.len, min10, hmin, Option.map_none, Option.map_some, hc1, hap, ws10_0 (OHQ oh2).1 (OHQ oh2).2]
  (repeat refine W_seq ?_); refine W_regionT [] ?_
  simp only [go_sem, wa9_0, wl11_0]
  refine AT_call rfl rfl (fewB (n := 40) (hd.new u2) (by decide)) fun v M1 hd1 h1 => ?_
  obtain ⟨G3, rfl, u3, b3, l3⟩ := h1
  have c3 := fun b : TellR => tcells_st b (OHQ oh2).1 b3.one.1
  simp only [go_sem, wa9_0, ws11_0 b3.one.1 b3.one.2]
  (repeat refine W_seq ?_); refine W_regionT [] ?_
  simp only [go_sem, wL_0, wS_1 (c3 _)]
  refine W_ret ⟨.inr rfl, [.agg (TellR.cells a.few v2 v)], ?_, ?_, G3, rfl, u2.then u3 (fun _ _ h => h), v2, v, rfl, oh2.new u3, b3, l2, fun k hk => Nat.le_trans u2.l (l3 k hk), fun k hk hk2 => by have := RH.lt oh2.rh hk; have := l3 k hk2; omega⟩
  · show (match loadA Try.prog 90 (.ptr ⟨S.length + 1, 1, 0⟩) _, resE Try.prog _ _ [] with | some v, some vs => some (v :: vs) | _, _ => none) = _
    rw [wL_1]; rfl
  · show (AV.agg _).lev0 = true
    have e : lev0s (TellR.cells a.few v2 v) = true := tcells_lev (RH.lev0 oh2.rh) b3.lev0'
    simp only [AV.lev0, e]
theorem putQids143 {vq : AV} {l : List QidR} (h : QL H vq l) (hl : l.length ≤ 8) : AC Try.prog 143 [vq] ⟨H, S⟩ (NewB H S (qidsB l)) := by
  refine AC_of_WE Try.func143 rfl ?_
  simp only [Try.ntmps143, List.length_cons, List.length_nil, List.replicate, List.cons_append, List.nil_append, mem_enter]
  (repeat refine W_seq ?_); refine W_regionT [] ?_
  simp only [go_sem]
  (repeat refine W_seq ?_)
  refine W_scope 0 (fun n env M' => ∃ (x1 x2 x5 x6 x7 x8 x9 x10 x11 x12 x13 x14 x15 x16 x17 x18 x19 x20 x21 : AV) (vb : AV) (i : Nat) (G : List Block), env = [vq, x1, x2, vb, .int .i64 i, x5, x6, x7, x8, x9, x10, x11, x12, x13, x14, x15, x16, x17, x18, x19, x20, x21] ∧ i + n = l.length ∧ M' = ⟨G, [] :: S⟩ ∧ UpdH no H G ∧ BH G vb (le (u16 l.length) 2 ++ (l.take i).flatMap QidR.bytes) ∧ ∀ k, vb.loc k → H.length ≤ k) rfl ?_ ?_
  · (repeat refine W_seq ?_); refine W_regionT [] ?_
    simp only [go_sem, h.len, ti3, ti24]
    refine AT_call rfl rfl (u16B BH.nil (by simp)) fun v M1 hd1 h1 => ?_
    obtain ⟨G1, rfl, u1, b1, l1⟩ := h1
    rw [List.nil_append] at b1
    simp only [go_sem]
    (repeat refine W_seq ?_)
    refine W_mid (fun env M' => ∃ (x1 x2 x5 x6 x7 x8 x9 x10 x11 x12 x13 x14 x15 x16 x17 x18 x19 x20 x21 : AV) (vb : AV) (i : Nat) (G : List Block), env = [vq, x1, x2, vb, .int .i64 i, x5, x6, x7, x8, x9, x10, x11, x12, x13, x14, x15, x16, x17, x18, x19, x20, x21] ∧ i ≤ l.length ∧ M' = ⟨G, [] :: S⟩ ∧ UpdH no H G ∧ BH G vb (le (u16 l.length) 2 ++ (l.take i).flatMap QidR.bytes) ∧ ∀ k, vb.loc k → H.length ≤ k) ?_ ?_
    · (repeat refine W_seq ?_); refine W_regionT [] ?_
      simp only [go_sem]
      exact ⟨_, _, _, _, _, _, _, _, _, _, _, _, _, _, _, _, _, _, _, _, 0, _, rfl, Nat.zero_le _, rfl, u1, by simpa using b1, l1⟩
    refine fun env M' => ?_
    refine exE fun x1 => exE fun x2 => exE fun x5 => exE fun x6 => exE fun x7 => exE fun x8 => exE fun x9 => exE fun x10 => exE fun x11 => exE fun x12 => exE fun x13 => exE fun x14 => exE fun x15 => exE fun x16 => exE fun x17 => exE fun x18 => exE fun x19 => exE fun x20 => exE fun x21 => ?_
    rintro ⟨vb, i, G, rfl, hij, rfl, uG, bb, hvb⟩
    (repeat refine W_seq ?_)
    refine W_label ?_
    simp only [go_sem]
    (repeat refine W_seq ?_); refine W_regionT [] ?_
    simp only [go_sem, h.len, (h.new uG).len]
    (repeat refine W_seq ?_)
    refine W_cond_if rfl (fun hb => ?_) (fun hb => ?_)
    · have hi : i = l.length := by simp at hb; omega
      (repeat refine W_seq ?_); refine W_regionT [] ?_
      simp only [go_sem]
      refine W_ret ?_
      show (Ex.ret = .norm ∨ Ex.ret = .ret) ∧ _
      rw [hi, List.take_length] at bb
      exact ⟨.inr rfl, _, rfl, RH.lev0 bb, _, rfl, uG, bb, hvb⟩
    · have hi' : ¬ i = l.length := by simp at hb; omega
      refine W_skip ?_
      simp only [go_sem]
      have hi : i < l.length := by omega
      have a86 := at86 (S := [] :: S) (h.new uG) hi
      have hql := qids_len (l.take i)
      rw [List.length_take] at hql
      (repeat refine W_seq ?_); refine W_regionT [] ?_
      simp only [go_sem, a86.1, a86.2]
      refine AT_call rfl rfl (putQid142 bb (by simp only [List.length_append, le_length]; omega)) fun v M1 hd1 h1 => ?_
      obtain ⟨G3, rfl, u3, b3, l3⟩ := h1
      rw [List.append_assoc, ← qflat_succ hi] at b3
      simp only [go_sem]
      (repeat refine W_seq ?_); refine W_regionT [] ?_
      simp only [go_sem, show (i : Int) + 1 = ((i + 1 : Nat) : Int) from rfl, wrap_i64 (n := ((i + 1 : Nat) : Int)) (by omega) (by omega)]
      (repeat refine W_seq ?_)
      refine W_goto ?_
      exact ⟨rfl, l.length - (i + 1), _, _, _, _, _, _, _, _, _, _, _, _, _, _, _, _, _, _, _, v, i + 1, G3, rfl, by omega, rfl, uG.then u3 (fun _ _ h => h), b3, fun k hk => Nat.le_trans uG.l (l3 k hk)⟩
  · intro n env1 M1
    refine exE fun x1 => exE fun x2 => exE fun x5 => exE fun x6 => exE fun x7 => exE fun x8 => exE fun x9 => exE fun x10 => exE fun x11 => exE fun x12 => exE fun x13 => exE fun x14 => exE fun x15 => exE fun x16 => exE fun x17 => exE fun x18 => exE fun x19 => exE fun x20 => exE fun x21 => ?_
    rintro ⟨vb, i, G, rfl, hij, rfl, uG, bb, hvb⟩
    (repeat refine W_seq ?_)
    refine W_skip ?_
    simp only [go_sem]
    (repeat refine W_seq ?_); refine W_regionT [] ?_
    simp only [go_sem, h.len, (h.new uG).len]
    (repeat refine W_seq ?_)
    refine W_cond_if rfl (fun hb => ?_) (fun hb => ?_)
    · have hi : i = l.length := by simp at hb; omega
      (repeat refine W_seq ?_); refine W_regionT [] ?_
      simp only [go_sem]
      refine W_ret ?_
      show (Ex.ret = .norm ∨ Ex.ret = .ret) ∧ _
      rw [hi, List.take_length] at bb
      exact ⟨.inr rfl, _, rfl, RH.lev0 bb, _, rfl, uG, bb, hvb⟩
    · have hi' : ¬ i = l.length := by simp at hb; omega
      refine W_skip ?_
      simp only [go_sem]
      have hi : i < l.length := by omega
      have a86 := at86 (S := [] :: S) (h.new uG) hi
      have hql := qids_len (l.take i)
      rw [List.length_take] at hql
      (repeat refine W_seq ?_); refine W_regionT [] ?_
      simp only [go_sem, a86.1, a86.2]
      refine AT_call rfl rfl (putQid142 bb (by simp only [List.length_append, le_length]; omega)) fun v M1 hd1 h1 => ?_
      obtain ⟨G3, rfl, u3, b3, l3⟩ := h1
      rw [List.append_assoc, ← qflat_succ hi] at b3
      simp only [go_sem]
      (repeat refine W_seq ?_); refine W_regionT [] ?_
      simp only [go_sem, show (i : Int) + 1 = ((i + 1 : Nat) : Int) from rfl, wrap_i64 (n := ((i + 1 : Nat) : Int)) (by omega) (by omega)]
      (repeat refine W_seq ?_)
      refine W_goto ?_
      exact ⟨rfl, n - 1, by omega, _, _, _, _, _, _, _, _, _, _, _, _, _, _, _, _, _, _, _, v, i + 1, G3, rfl, by omega, rfl, uG.then u3 (fun _ _ h => h), b3, fun k hk => Nat.le_trans uG.l (l3 k hk)⟩
theorem puts : Puts := fun _ _ _ _ h hl => putQids143 h hl
theorem word111 {n : Int} : AC Try.prog 111 [.int .i64 n] ⟨H, S⟩ (fun v M' => v = .bool (inB n 0 4294967295) ∧ M' = ⟨H, S⟩) := by
  refine AC_of_WE Try.func111 rfl ?_
  simp only [Try.ntmps111, List.length_cons, List.length_nil, List.replicate, List.cons_append, List.nil_append, mem_enter]
  (repeat refine W_seq ?_); refine W_regionT [] ?_
  simp only [go_sem]
  rcases (show 0 ≤ n ∨ ¬ 0 ≤ n by omega) with h | h
  · have hx : decide (0 ≤ n) = true := decide_eq_true h
    (repeat refine W_seq ?_); refine W_regionT [] ?_
    simp only [go_sem, hx]
    refine W_ret ⟨.inr rfl, _, rfl, rfl, ?_, rfl⟩
    unfold inB
    rw [hx, Bool.true_and]; rfl
  · have hx : decide (0 ≤ n) = false := decide_eq_false h
    (repeat refine W_seq ?_); refine W_regionT [] ?_
    simp only [go_sem, hx]
    refine W_ret ⟨.inr rfl, _, rfl, rfl, ?_, rfl⟩
    unfold inB
    rw [hx]; rfl
theorem long112 {n : Int} : AC Try.prog 112 [.int .i64 n] ⟨H, S⟩ (fun v M' => v = .bool (inB n 0 4611686018427387904) ∧ M' = ⟨H, S⟩) := by
  refine AC_of_WE Try.func112 rfl ?_
  simp only [Try.ntmps112, List.length_cons, List.length_nil, List.replicate, List.cons_append, List.nil_append, mem_enter]
  (repeat refine W_seq ?_); refine W_regionT [] ?_
  simp only [go_sem]
  rcases (show 0 ≤ n ∨ ¬ 0 ≤ n by omega) with h | h
  · have hx : decide (0 ≤ n) = true := decide_eq_true h
    (repeat refine W_seq ?_); refine W_regionT [] ?_
    simp only [go_sem, hx]
    refine W_ret ⟨.inr rfl, _, rfl, rfl, ?_, rfl⟩
    unfold inB
    rw [hx, Bool.true_and]; rfl
  · have hx : decide (0 ≤ n) = false := decide_eq_false h
    (repeat refine W_seq ?_); refine W_regionT [] ?_
    simp only [go_sem, hx]
    refine W_ret ⟨.inr rfl, _, rfl, rfl, ?_, rfl⟩
    unfold inB
    rw [hx]; rfl
theorem qidR110 {q : QidR} : AC Try.prog 110 [.agg q.cells] ⟨H, S⟩ (fun v M' => v = .bool q.ok ∧ M' = ⟨H, S⟩) := by
  refine AC_of_WE Try.func110 rfl ?_
  simp only [Try.ntmps110, List.length_cons, List.length_nil, List.replicate, List.cons_append, List.nil_append, mem_enter]
  (repeat refine W_seq ?_); refine W_regionT [] ?_
  simp only [go_sem, yboxL (qcells_st q), List.nil_append, List.cons_append, List.length_nil, List.length_cons, Nat.zero_add, Nat.reduceAdd]
  rcases (show inB q.ver 0 4294967295 = true ∨ inB q.ver 0 4294967295 = false by cases inB q.ver 0 4294967295 <;> simp) with Q | Q
  · (repeat refine W_seq ?_); refine W_regionT [] ?_
    simp only [go_sem, Q, ya0_0, ya1_0, ya2_0, yl0_0, yl1_0, yl2_0, yL_0]
    refine AT_call rfl rfl (word111) fun v M1 hd1 h1 => ?_
    obtain ⟨hv, hM⟩ := h1; subst hv; subst hM
    simp only [go_sem, Q, ya0_0, ya1_0, ya2_0, yl0_0, yl1_0, yl2_0, yL_0]
    refine AT_call rfl rfl (long112) fun v M1 hd1 h1 => ?_
    obtain ⟨hv, hM⟩ := h1; subst hv; subst hM
    simp only [go_sem, Q, ya0_0, ya1_0, ya2_0, yl0_0, yl1_0, yl2_0, yL_0]
    refine W_ret ⟨.inr rfl, _, rfl, rfl, ?_, rfl⟩
    unfold QidR.ok; simp only [Q, Bool.and_true, Bool.true_and, Bool.false_and, Bool.and_false, Bool.not_true, Bool.not_false]; rfl
  · (repeat refine W_seq ?_); refine W_regionT [] ?_
    simp only [go_sem, Q, ya0_0, ya1_0, ya2_0, yl0_0, yl1_0, yl2_0, yL_0]
    refine AT_call rfl rfl (word111) fun v M1 hd1 h1 => ?_
    obtain ⟨hv, hM⟩ := h1; subst hv; subst hM
    simp only [go_sem, Q, ya0_0, ya1_0, ya2_0, yl0_0, yl1_0, yl2_0, yL_0]
    refine W_ret ⟨.inr rfl, _, rfl, rfl, ?_, rfl⟩
    unfold QidR.ok; simp only [Q, Bool.and_true, Bool.true_and, Bool.false_and, Bool.and_false, Bool.not_true, Bool.not_false]; rfl
theorem tmayR63 {a : TellR} {vn vd : AV} (hn : QL H vn a.qids) (hd : BH H vd a.data) (hl : a.qids.length < 1000000) : AC Try.prog 63 [.agg (a.cells vn vd)] ⟨H, S⟩ (fun v M' => v = .bool a.may ∧ M' = ⟨H, S⟩) := by
  refine AC_of_WE Try.func63 rfl ?_
  simp only [Try.ntmps63, List.length_cons, List.length_nil, List.replicate, List.cons_append, List.nil_append, mem_enter]
  have hn2 := TellR.own_ql hn
  have hd2 := TellR.own_bh hd
  have st1 := tcells_st a hn.one.1 hd.one.1
  have st2 := tcells_st a.own hn2.one.1 hd2.one.1
  have hx : TellV H (.agg (a.cells vn vd)) a := ⟨vn, vd, rfl, hn, hd⟩
  have hx2 : TellV H (.agg (TellR.cells a.own (a.ownN vn) (a.ownD vd))) a.own := ⟨_, _, rfl, hn2, hd2⟩
  (repeat refine W_seq ?_); refine W_regionT [] ?_
  simp only [go_sem, wboxL st1, List.nil_append, List.cons_append, List.length_nil, List.length_cons, Nat.zero_add, Nat.reduceAdd]
  (repeat refine W_seq ?_); refine W_regionT [] ?_
  simp only [go_sem, wa0_0, wa1_0, wa2_0, wa3_0, wa4_0, wa5_0, wa6_0, wa7_0, wa8_0, wa9_0, wa10_0, wa88_12_0, wa88_15_0, wa88_16_0, wa88_17_0, wa85_7_0, wa85_8_0, wa85_9_0, wa85_13_0, wa85_14_0, wl0_0, wl1_0, wl2_0, wl3_0, wl4_0, wl5_0, wl6_0, wl7_0, wl8_0, wl9_0, wl10_0, wl11_0, wl12_0, wl13_0, wl14_0, wl15_0, wl16_0, wl17_0, wl7g85_0, wl12g85_0, wl12g88_0, wL_0]
  refine AT_call rfl rfl (town108 hn hd) fun v M1 hd1 h1 => ?_
  obtain ⟨hv, hM⟩ := h1; subst hv; subst hM
  simp only [go_sem, wallocL, wS_1 st2, List.nil_append, List.cons_append, List.length_nil, List.length_cons, Nat.zero_add, Nat.reduceAdd]
  (repeat refine W_seq ?_); refine W_regionT [] ?_
  simp only [go_sem, wa0_0, wa1_0, wa2_0, wa3_0, wa4_0, wa5_0, wa6_0, wa7_0, wa8_0, wa9_0, wa10_0, wa88_12_0, wa88_15_0, wa88_16_0, wa88_17_0, wa85_7_0, wa85_8_0, wa85_9_0, wa85_13_0, wa85_14_0, wl0_0, wl1_0, wl2_0, wl3_0, wl4_0, wl5_0, wl6_0, wl7_0, wl8_0, wl9_0, wl10_0, wl11_0, wl12_0, wl13_0, wl14_0, wl15_0, wl16_0, wl17_0, wl7g85_0, wl12g85_0, wl12g88_0, wL_0, wa0_1, wa1_1, wa2_1, wa3_1, wa4_1, wa5_1, wa6_1, wa7_1, wa8_1, wa9_1, wa10_1, wa88_12_1, wa88_15_1, wa88_16_1, wa88_17_1, wa85_7_1, wa85_8_1, wa85_9_1, wa85_13_1, wa85_14_1, wl0_1, wl1_1, wl2_1, wl3_1, wl4_1, wl5_1, wl6_1, wl7_1, wl8_1, wl9_1, wl10_1, wl11_1, wl12_1, wl13_1, wl14_1, wl15_1, wl16_1, wl17_1, wl7g85_1, wl12g85_1, wl12g88_1, wL_1]
  refine AT_call rfl rfl (same69 hx2 hx (show a.own.qids.length < 1000000 by show (if tkind a.ty = 5 then a.qids else []).length < _; split; exact hl; decide)) fun v M1 hd1 h1 => ?_
  obtain ⟨hv, hM⟩ := h1; subst hv; subst hM
  rw [show decide (a.own = a) = decide (a = a.own) from decide_eq_decide.2 eq_comm]
  simp only [go_sem, wa0_0, wa1_0, wa2_0, wa3_0, wa4_0, wa5_0, wa6_0, wa7_0, wa8_0, wa9_0, wa10_0, wa88_12_0, wa88_15_0, wa88_16_0, wa88_17_0, wa85_7_0, wa85_8_0, wa85_9_0, wa85_13_0, wa85_14_0, wl0_0, wl1_0, wl2_0, wl3_0, wl4_0, wl5_0, wl6_0, wl7_0, wl8_0, wl9_0, wl10_0, wl11_0, wl12_0, wl13_0, wl14_0, wl15_0, wl16_0, wl17_0, wl7g85_0, wl12g85_0, wl12g88_0, wL_0, wa0_1, wa1_1, wa2_1, wa3_1, wa4_1, wa5_1, wa6_1, wa7_1, wa8_1, wa9_1, wa10_1, wa88_12_1, wa88_15_1, wa88_16_1, wa88_17_1, wa85_7_1, wa85_8_1, wa85_9_1, wa85_13_1, wa85_14_1, wl0_1, wl1_1, wl2_1, wl3_1, wl4_1, wl5_1, wl6_1, wl7_1, wl8_1, wl9_1, wl10_1, wl11_1, wl12_1, wl13_1, wl14_1, wl15_1, wl16_1, wl17_1, wl7g85_1, wl12g85_1, wl12g88_1, wL_1]
  rcases ff10 (decide (a = a.own)) (tknown a.ty) (decide (0 ≤ a.tag)) (decide (a.tag ≤ 65535)) (decide (0 ≤ a.code)) (decide (a.code ≤ 65535)) (decide ((a.qids.length : Int) ≤ 8)) (decide ((a.data.length : Int) ≤ 1024)) (decide ((a.name.length : Int) ≤ 255)) (decide ((a.s.name.length : Int) ≤ 255)) with Q | Q | Q | Q | Q | Q | Q | Q | Q | Q | Q
  · (repeat refine W_seq ?_); refine W_regionT [] ?_
    simp (maxSteps := 1000000) only [go_sem, Q, tfields_none, dlt, len9, hn.len, hd.len, wa0_0, wa1_0, wa2_0, wa3_0, wa4_0, wa5_0, wa6_0, wa7_0, wa8_0, wa9_0, wa10_0, wa88_12_0, wa88_15_0, wa88_16_0, wa88_17_0, wa85_7_0, wa85_8_0, wa85_9_0, wa85_13_0, wa85_14_0, wl0_0, wl1_0, wl2_0, wl3_0, wl4_0, wl5_0, wl6_0, wl7_0, wl8_0, wl9_0, wl10_0, wl11_0, wl12_0, wl13_0, wl14_0, wl15_0, wl16_0, wl17_0, wl7g85_0, wl12g85_0, wl12g88_0, wL_0, Bool.and_true, Bool.true_and, Bool.false_and, Bool.and_false, Bool.not_true, Bool.not_false]
    have QH := Q
    (repeat refine W_seq ?_)
    refine W_cond (b := true) rfl ?_
    simp only [if_true]
    (repeat refine W_seq ?_); refine W_regionT [] ?_
    simp only [go_sem]
    refine W_ret ⟨.inr rfl, _, rfl, rfl, ?_, rfl⟩
    rw [show a.may = false by unfold TellR.may inB; simp only [Q, Bool.and_true, Bool.true_and, Bool.false_and, Bool.and_false, Bool.not_true, Bool.not_false]]; rfl
  · (repeat refine W_seq ?_); refine W_regionT [] ?_
    simp (maxSteps := 1000000) only [go_sem, Q, tfields_none, dlt, len9, hn.len, hd.len, wa0_0, wa1_0, wa2_0, wa3_0, wa4_0, wa5_0, wa6_0, wa7_0, wa8_0, wa9_0, wa10_0, wa88_12_0, wa88_15_0, wa88_16_0, wa88_17_0, wa85_7_0, wa85_8_0, wa85_9_0, wa85_13_0, wa85_14_0, wl0_0, wl1_0, wl2_0, wl3_0, wl4_0, wl5_0, wl6_0, wl7_0, wl8_0, wl9_0, wl10_0, wl11_0, wl12_0, wl13_0, wl14_0, wl15_0, wl16_0, wl17_0, wl7g85_0, wl12g85_0, wl12g88_0, wL_0, Bool.and_true, Bool.true_and, Bool.false_and, Bool.and_false, Bool.not_true, Bool.not_false]
    refine AT_call rfl rfl (tfields109) fun v M1 hd1 h1 => ?_
    obtain ⟨hv, hM⟩ := h1; subst hv; subst hM
    simp (maxSteps := 1000000) only [go_sem, Q, tfields_none, dlt, len9, hn.len, hd.len, wa0_0, wa1_0, wa2_0, wa3_0, wa4_0, wa5_0, wa6_0, wa7_0, wa8_0, wa9_0, wa10_0, wa88_12_0, wa88_15_0, wa88_16_0, wa88_17_0, wa85_7_0, wa85_8_0, wa85_9_0, wa85_13_0, wa85_14_0, wl0_0, wl1_0, wl2_0, wl3_0, wl4_0, wl5_0, wl6_0, wl7_0, wl8_0, wl9_0, wl10_0, wl11_0, wl12_0, wl13_0, wl14_0, wl15_0, wl16_0, wl17_0, wl7g85_0, wl12g85_0, wl12g88_0, wL_0, Bool.and_true, Bool.true_and, Bool.false_and, Bool.and_false, Bool.not_true, Bool.not_false]
    have QH := Q
    (repeat refine W_seq ?_)
    refine W_cond (b := true) rfl ?_
    simp only [if_true]
    (repeat refine W_seq ?_); refine W_regionT [] ?_
    simp only [go_sem]
    refine W_ret ⟨.inr rfl, _, rfl, rfl, ?_, rfl⟩
    rw [show a.may = false by unfold TellR.may inB; simp only [Q, Bool.and_true, Bool.true_and, Bool.false_and, Bool.and_false, Bool.not_true, Bool.not_false]]; rfl
  · (repeat refine W_seq ?_); refine W_regionT [] ?_
    simp (maxSteps := 1000000) only [go_sem, Q, tfields_none, dlt, len9, hn.len, hd.len, wa0_0, wa1_0, wa2_0, wa3_0, wa4_0, wa5_0, wa6_0, wa7_0, wa8_0, wa9_0, wa10_0, wa88_12_0, wa88_15_0, wa88_16_0, wa88_17_0, wa85_7_0, wa85_8_0, wa85_9_0, wa85_13_0, wa85_14_0, wl0_0, wl1_0, wl2_0, wl3_0, wl4_0, wl5_0, wl6_0, wl7_0, wl8_0, wl9_0, wl10_0, wl11_0, wl12_0, wl13_0, wl14_0, wl15_0, wl16_0, wl17_0, wl7g85_0, wl12g85_0, wl12g88_0, wL_0, Bool.and_true, Bool.true_and, Bool.false_and, Bool.and_false, Bool.not_true, Bool.not_false]
    refine AT_call rfl rfl (tfields109) fun v M1 hd1 h1 => ?_
    obtain ⟨hv, hM⟩ := h1; subst hv; subst hM
    simp (maxSteps := 1000000) only [go_sem, Q, tfields_none, dlt, len9, hn.len, hd.len, wa0_0, wa1_0, wa2_0, wa3_0, wa4_0, wa5_0, wa6_0, wa7_0, wa8_0, wa9_0, wa10_0, wa88_12_0, wa88_15_0, wa88_16_0, wa88_17_0, wa85_7_0, wa85_8_0, wa85_9_0, wa85_13_0, wa85_14_0, wl0_0, wl1_0, wl2_0, wl3_0, wl4_0, wl5_0, wl6_0, wl7_0, wl8_0, wl9_0, wl10_0, wl11_0, wl12_0, wl13_0, wl14_0, wl15_0, wl16_0, wl17_0, wl7g85_0, wl12g85_0, wl12g88_0, wL_0, Bool.and_true, Bool.true_and, Bool.false_and, Bool.and_false, Bool.not_true, Bool.not_false]
    have QH := Q
    (repeat refine W_seq ?_)
    refine W_cond (b := true) rfl ?_
    simp only [if_true]
    (repeat refine W_seq ?_); refine W_regionT [] ?_
    simp only [go_sem]
    refine W_ret ⟨.inr rfl, _, rfl, rfl, ?_, rfl⟩
    rw [show a.may = false by unfold TellR.may inB; simp only [Q, Bool.and_true, Bool.true_and, Bool.false_and, Bool.and_false, Bool.not_true, Bool.not_false]]; rfl
  · (repeat refine W_seq ?_); refine W_regionT [] ?_
    simp (maxSteps := 1000000) only [go_sem, Q, tfields_none, dlt, len9, hn.len, hd.len, wa0_0, wa1_0, wa2_0, wa3_0, wa4_0, wa5_0, wa6_0, wa7_0, wa8_0, wa9_0, wa10_0, wa88_12_0, wa88_15_0, wa88_16_0, wa88_17_0, wa85_7_0, wa85_8_0, wa85_9_0, wa85_13_0, wa85_14_0, wl0_0, wl1_0, wl2_0, wl3_0, wl4_0, wl5_0, wl6_0, wl7_0, wl8_0, wl9_0, wl10_0, wl11_0, wl12_0, wl13_0, wl14_0, wl15_0, wl16_0, wl17_0, wl7g85_0, wl12g85_0, wl12g88_0, wL_0, Bool.and_true, Bool.true_and, Bool.false_and, Bool.and_false, Bool.not_true, Bool.not_false]
    refine AT_call rfl rfl (tfields109) fun v M1 hd1 h1 => ?_
    obtain ⟨hv, hM⟩ := h1; subst hv; subst hM
    simp (maxSteps := 1000000) only [go_sem, Q, tfields_none, dlt, len9, hn.len, hd.len, wa0_0, wa1_0, wa2_0, wa3_0, wa4_0, wa5_0, wa6_0, wa7_0, wa8_0, wa9_0, wa10_0, wa88_12_0, wa88_15_0, wa88_16_0, wa88_17_0, wa85_7_0, wa85_8_0, wa85_9_0, wa85_13_0, wa85_14_0, wl0_0, wl1_0, wl2_0, wl3_0, wl4_0, wl5_0, wl6_0, wl7_0, wl8_0, wl9_0, wl10_0, wl11_0, wl12_0, wl13_0, wl14_0, wl15_0, wl16_0, wl17_0, wl7g85_0, wl12g85_0, wl12g88_0, wL_0, Bool.and_true, Bool.true_and, Bool.false_and, Bool.and_false, Bool.not_true, Bool.not_false]
    have QH := Q
    (repeat refine W_seq ?_)
    refine W_cond (b := true) rfl ?_
    simp only [if_true]
    (repeat refine W_seq ?_); refine W_regionT [] ?_
    simp only [go_sem]
    refine W_ret ⟨.inr rfl, _, rfl, rfl, ?_, rfl⟩
    rw [show a.may = false by unfold TellR.may inB; simp only [Q, Bool.and_true, Bool.true_and, Bool.false_and, Bool.and_false, Bool.not_true, Bool.not_false]]; rfl
  · (repeat refine W_seq ?_); refine W_regionT [] ?_
    simp (maxSteps := 1000000) only [go_sem, Q, tfields_none, dlt, len9, hn.len, hd.len, wa0_0, wa1_0, wa2_0, wa3_0, wa4_0, wa5_0, wa6_0, wa7_0, wa8_0, wa9_0, wa10_0, wa88_12_0, wa88_15_0, wa88_16_0, wa88_17_0, wa85_7_0, wa85_8_0, wa85_9_0, wa85_13_0, wa85_14_0, wl0_0, wl1_0, wl2_0, wl3_0, wl4_0, wl5_0, wl6_0, wl7_0, wl8_0, wl9_0, wl10_0, wl11_0, wl12_0, wl13_0, wl14_0, wl15_0, wl16_0, wl17_0, wl7g85_0, wl12g85_0, wl12g88_0, wL_0, Bool.and_true, Bool.true_and, Bool.false_and, Bool.and_false, Bool.not_true, Bool.not_false]
    refine AT_call rfl rfl (tfields109) fun v M1 hd1 h1 => ?_
    obtain ⟨hv, hM⟩ := h1; subst hv; subst hM
    simp (maxSteps := 1000000) only [go_sem, Q, tfields_none, dlt, len9, hn.len, hd.len, wa0_0, wa1_0, wa2_0, wa3_0, wa4_0, wa5_0, wa6_0, wa7_0, wa8_0, wa9_0, wa10_0, wa88_12_0, wa88_15_0, wa88_16_0, wa88_17_0, wa85_7_0, wa85_8_0, wa85_9_0, wa85_13_0, wa85_14_0, wl0_0, wl1_0, wl2_0, wl3_0, wl4_0, wl5_0, wl6_0, wl7_0, wl8_0, wl9_0, wl10_0, wl11_0, wl12_0, wl13_0, wl14_0, wl15_0, wl16_0, wl17_0, wl7g85_0, wl12g85_0, wl12g88_0, wL_0, Bool.and_true, Bool.true_and, Bool.false_and, Bool.and_false, Bool.not_true, Bool.not_false]
    have QH := Q
    (repeat refine W_seq ?_)
    refine W_cond (b := true) rfl ?_
    simp only [if_true]
    (repeat refine W_seq ?_); refine W_regionT [] ?_
    simp only [go_sem]
    refine W_ret ⟨.inr rfl, _, rfl, rfl, ?_, rfl⟩
    rw [show a.may = false by unfold TellR.may inB; simp only [Q, Bool.and_true, Bool.true_and, Bool.false_and, Bool.and_false, Bool.not_true, Bool.not_false]]; rfl
  · (repeat refine W_seq ?_); refine W_regionT [] ?_
    simp (maxSteps := 1000000) only [go_sem, Q, tfields_none, dlt, len9, hn.len, hd.len, wa0_0, wa1_0, wa2_0, wa3_0, wa4_0, wa5_0, wa6_0, wa7_0, wa8_0, wa9_0, wa10_0, wa88_12_0, wa88_15_0, wa88_16_0, wa88_17_0, wa85_7_0, wa85_8_0, wa85_9_0, wa85_13_0, wa85_14_0, wl0_0, wl1_0, wl2_0, wl3_0, wl4_0, wl5_0, wl6_0, wl7_0, wl8_0, wl9_0, wl10_0, wl11_0, wl12_0, wl13_0, wl14_0, wl15_0, wl16_0, wl17_0, wl7g85_0, wl12g85_0, wl12g88_0, wL_0, Bool.and_true, Bool.true_and, Bool.false_and, Bool.and_false, Bool.not_true, Bool.not_false]
    refine AT_call rfl rfl (tfields109) fun v M1 hd1 h1 => ?_
    obtain ⟨hv, hM⟩ := h1; subst hv; subst hM
    simp (maxSteps := 1000000) only [go_sem, Q, tfields_none, dlt, len9, hn.len, hd.len, wa0_0, wa1_0, wa2_0, wa3_0, wa4_0, wa5_0, wa6_0, wa7_0, wa8_0, wa9_0, wa10_0, wa88_12_0, wa88_15_0, wa88_16_0, wa88_17_0, wa85_7_0, wa85_8_0, wa85_9_0, wa85_13_0, wa85_14_0, wl0_0, wl1_0, wl2_0, wl3_0, wl4_0, wl5_0, wl6_0, wl7_0, wl8_0, wl9_0, wl10_0, wl11_0, wl12_0, wl13_0, wl14_0, wl15_0, wl16_0, wl17_0, wl7g85_0, wl12g85_0, wl12g88_0, wL_0, Bool.and_true, Bool.true_and, Bool.false_and, Bool.and_false, Bool.not_true, Bool.not_false]
    have QH := Q
    (repeat refine W_seq ?_)
    refine W_cond (b := true) rfl ?_
    simp only [if_true]
    (repeat refine W_seq ?_); refine W_regionT [] ?_
    simp only [go_sem]
    refine W_ret ⟨.inr rfl, _, rfl, rfl, ?_, rfl⟩
    rw [show a.may = false by unfold TellR.may inB; simp only [Q, Bool.and_true, Bool.true_and, Bool.false_and, Bool.and_false, Bool.not_true, Bool.not_false]]; rfl
  · (repeat refine W_seq ?_); refine W_regionT [] ?_
    simp (maxSteps := 1000000) only [go_sem, Q, tfields_none, dlt, len9, hn.len, hd.len, wa0_0, wa1_0, wa2_0, wa3_0, wa4_0, wa5_0, wa6_0, wa7_0, wa8_0, wa9_0, wa10_0, wa88_12_0, wa88_15_0, wa88_16_0, wa88_17_0, wa85_7_0, wa85_8_0, wa85_9_0, wa85_13_0, wa85_14_0, wl0_0, wl1_0, wl2_0, wl3_0, wl4_0, wl5_0, wl6_0, wl7_0, wl8_0, wl9_0, wl10_0, wl11_0, wl12_0, wl13_0, wl14_0, wl15_0, wl16_0, wl17_0, wl7g85_0, wl12g85_0, wl12g88_0, wL_0, Bool.and_true, Bool.true_and, Bool.false_and, Bool.and_false, Bool.not_true, Bool.not_false]
    refine AT_call rfl rfl (tfields109) fun v M1 hd1 h1 => ?_
    obtain ⟨hv, hM⟩ := h1; subst hv; subst hM
    simp (maxSteps := 1000000) only [go_sem, Q, tfields_none, dlt, len9, hn.len, hd.len, wa0_0, wa1_0, wa2_0, wa3_0, wa4_0, wa5_0, wa6_0, wa7_0, wa8_0, wa9_0, wa10_0, wa88_12_0, wa88_15_0, wa88_16_0, wa88_17_0, wa85_7_0, wa85_8_0, wa85_9_0, wa85_13_0, wa85_14_0, wl0_0, wl1_0, wl2_0, wl3_0, wl4_0, wl5_0, wl6_0, wl7_0, wl8_0, wl9_0, wl10_0, wl11_0, wl12_0, wl13_0, wl14_0, wl15_0, wl16_0, wl17_0, wl7g85_0, wl12g85_0, wl12g88_0, wL_0, Bool.and_true, Bool.true_and, Bool.false_and, Bool.and_false, Bool.not_true, Bool.not_false]
    have QH := Q
    (repeat refine W_seq ?_)
    refine W_cond (b := true) rfl ?_
    simp only [if_true]
    (repeat refine W_seq ?_); refine W_regionT [] ?_
    simp only [go_sem]
    refine W_ret ⟨.inr rfl, _, rfl, rfl, ?_, rfl⟩
    rw [show a.may = false by unfold TellR.may inB; simp only [Q, Bool.and_true, Bool.true_and, Bool.false_and, Bool.and_false, Bool.not_true, Bool.not_false]]; rfl
  · (repeat refine W_seq ?_); refine W_regionT [] ?_
    simp (maxSteps := 1000000) only [go_sem, Q, tfields_none, dlt, len9, hn.len, hd.len, wa0_0, wa1_0, wa2_0, wa3_0, wa4_0, wa5_0, wa6_0, wa7_0, wa8_0, wa9_0, wa10_0, wa88_12_0, wa88_15_0, wa88_16_0, wa88_17_0, wa85_7_0, wa85_8_0, wa85_9_0, wa85_13_0, wa85_14_0, wl0_0, wl1_0, wl2_0, wl3_0, wl4_0, wl5_0, wl6_0, wl7_0, wl8_0, wl9_0, wl10_0, wl11_0, wl12_0, wl13_0, wl14_0, wl15_0, wl16_0, wl17_0, wl7g85_0, wl12g85_0, wl12g88_0, wL_0, Bool.and_true, Bool.true_and, Bool.false_and, Bool.and_false, Bool.not_true, Bool.not_false]
    refine AT_call rfl rfl (tfields109) fun v M1 hd1 h1 => ?_
    obtain ⟨hv, hM⟩ := h1; subst hv; subst hM
    simp (maxSteps := 1000000) only [go_sem, Q, tfields_none, dlt, len9, hn.len, hd.len, wa0_0, wa1_0, wa2_0, wa3_0, wa4_0, wa5_0, wa6_0, wa7_0, wa8_0, wa9_0, wa10_0, wa88_12_0, wa88_15_0, wa88_16_0, wa88_17_0, wa85_7_0, wa85_8_0, wa85_9_0, wa85_13_0, wa85_14_0, wl0_0, wl1_0, wl2_0, wl3_0, wl4_0, wl5_0, wl6_0, wl7_0, wl8_0, wl9_0, wl10_0, wl11_0, wl12_0, wl13_0, wl14_0, wl15_0, wl16_0, wl17_0, wl7g85_0, wl12g85_0, wl12g88_0, wL_0, Bool.and_true, Bool.true_and, Bool.false_and, Bool.and_false, Bool.not_true, Bool.not_false]
    have QH := Q
    (repeat refine W_seq ?_)
    refine W_cond (b := true) rfl ?_
    simp only [if_true]
    (repeat refine W_seq ?_); refine W_regionT [] ?_
    simp only [go_sem]
    refine W_ret ⟨.inr rfl, _, rfl, rfl, ?_, rfl⟩
    rw [show a.may = false by unfold TellR.may inB; simp only [Q, Bool.and_true, Bool.true_and, Bool.false_and, Bool.and_false, Bool.not_true, Bool.not_false]]; rfl
  · (repeat refine W_seq ?_); refine W_regionT [] ?_
    simp (maxSteps := 1000000) only [go_sem, Q, tfields_none, dlt, len9, hn.len, hd.len, wa0_0, wa1_0, wa2_0, wa3_0, wa4_0, wa5_0, wa6_0, wa7_0, wa8_0, wa9_0, wa10_0, wa88_12_0, wa88_15_0, wa88_16_0, wa88_17_0, wa85_7_0, wa85_8_0, wa85_9_0, wa85_13_0, wa85_14_0, wl0_0, wl1_0, wl2_0, wl3_0, wl4_0, wl5_0, wl6_0, wl7_0, wl8_0, wl9_0, wl10_0, wl11_0, wl12_0, wl13_0, wl14_0, wl15_0, wl16_0, wl17_0, wl7g85_0, wl12g85_0, wl12g88_0, wL_0, Bool.and_true, Bool.true_and, Bool.false_and, Bool.and_false, Bool.not_true, Bool.not_false]
    refine AT_call rfl rfl (tfields109) fun v M1 hd1 h1 => ?_
    obtain ⟨hv, hM⟩ := h1; subst hv; subst hM
    simp (maxSteps := 1000000) only [go_sem, Q, tfields_none, dlt, len9, hn.len, hd.len, wa0_0, wa1_0, wa2_0, wa3_0, wa4_0, wa5_0, wa6_0, wa7_0, wa8_0, wa9_0, wa10_0, wa88_12_0, wa88_15_0, wa88_16_0, wa88_17_0, wa85_7_0, wa85_8_0, wa85_9_0, wa85_13_0, wa85_14_0, wl0_0, wl1_0, wl2_0, wl3_0, wl4_0, wl5_0, wl6_0, wl7_0, wl8_0, wl9_0, wl10_0, wl11_0, wl12_0, wl13_0, wl14_0, wl15_0, wl16_0, wl17_0, wl7g85_0, wl12g85_0, wl12g88_0, wL_0, Bool.and_true, Bool.true_and, Bool.false_and, Bool.and_false, Bool.not_true, Bool.not_false]
    have QH := Q
    (repeat refine W_seq ?_)
    refine W_cond (b := true) rfl ?_
    simp only [if_true]
    (repeat refine W_seq ?_); refine W_regionT [] ?_
    simp only [go_sem]
    refine W_ret ⟨.inr rfl, _, rfl, rfl, ?_, rfl⟩
    rw [show a.may = false by unfold TellR.may inB; simp only [Q, Bool.and_true, Bool.true_and, Bool.false_and, Bool.and_false, Bool.not_true, Bool.not_false]]; rfl
  · (repeat refine W_seq ?_); refine W_regionT [] ?_
    simp (maxSteps := 1000000) only [go_sem, Q, tfields_none, dlt, len9, hn.len, hd.len, wa0_0, wa1_0, wa2_0, wa3_0, wa4_0, wa5_0, wa6_0, wa7_0, wa8_0, wa9_0, wa10_0, wa88_12_0, wa88_15_0, wa88_16_0, wa88_17_0, wa85_7_0, wa85_8_0, wa85_9_0, wa85_13_0, wa85_14_0, wl0_0, wl1_0, wl2_0, wl3_0, wl4_0, wl5_0, wl6_0, wl7_0, wl8_0, wl9_0, wl10_0, wl11_0, wl12_0, wl13_0, wl14_0, wl15_0, wl16_0, wl17_0, wl7g85_0, wl12g85_0, wl12g88_0, wL_0, Bool.and_true, Bool.true_and, Bool.false_and, Bool.and_false, Bool.not_true, Bool.not_false]
    refine AT_call rfl rfl (tfields109) fun v M1 hd1 h1 => ?_
    obtain ⟨hv, hM⟩ := h1; subst hv; subst hM
    simp (maxSteps := 1000000) only [go_sem, Q, tfields_none, dlt, len9, hn.len, hd.len, wa0_0, wa1_0, wa2_0, wa3_0, wa4_0, wa5_0, wa6_0, wa7_0, wa8_0, wa9_0, wa10_0, wa88_12_0, wa88_15_0, wa88_16_0, wa88_17_0, wa85_7_0, wa85_8_0, wa85_9_0, wa85_13_0, wa85_14_0, wl0_0, wl1_0, wl2_0, wl3_0, wl4_0, wl5_0, wl6_0, wl7_0, wl8_0, wl9_0, wl10_0, wl11_0, wl12_0, wl13_0, wl14_0, wl15_0, wl16_0, wl17_0, wl7g85_0, wl12g85_0, wl12g88_0, wL_0, Bool.and_true, Bool.true_and, Bool.false_and, Bool.and_false, Bool.not_true, Bool.not_false]
    have QH := Q
    (repeat refine W_seq ?_)
    refine W_cond (b := true) rfl ?_
    simp only [if_true]
    (repeat refine W_seq ?_); refine W_regionT [] ?_
    simp only [go_sem]
    refine W_ret ⟨.inr rfl, _, rfl, rfl, ?_, rfl⟩
    rw [show a.may = false by unfold TellR.may inB; simp only [Q, Bool.and_true, Bool.true_and, Bool.false_and, Bool.and_false, Bool.not_true, Bool.not_false]]; rfl
  · (repeat refine W_seq ?_); refine W_regionT [] ?_
    simp (maxSteps := 1000000) only [go_sem, Q, tfields_none, dlt, len9, hn.len, hd.len, wa0_0, wa1_0, wa2_0, wa3_0, wa4_0, wa5_0, wa6_0, wa7_0, wa8_0, wa9_0, wa10_0, wa88_12_0, wa88_15_0, wa88_16_0, wa88_17_0, wa85_7_0, wa85_8_0, wa85_9_0, wa85_13_0, wa85_14_0, wl0_0, wl1_0, wl2_0, wl3_0, wl4_0, wl5_0, wl6_0, wl7_0, wl8_0, wl9_0, wl10_0, wl11_0, wl12_0, wl13_0, wl14_0, wl15_0, wl16_0, wl17_0, wl7g85_0, wl12g85_0, wl12g88_0, wL_0, Bool.and_true, Bool.true_and, Bool.false_and, Bool.and_false, Bool.not_true, Bool.not_false]
    refine AT_call rfl rfl (tfields109) fun v M1 hd1 h1 => ?_
    obtain ⟨hv, hM⟩ := h1; subst hv; subst hM
    simp (maxSteps := 1000000) only [go_sem, Q, tfields_none, dlt, len9, hn.len, hd.len, wa0_0, wa1_0, wa2_0, wa3_0, wa4_0, wa5_0, wa6_0, wa7_0, wa8_0, wa9_0, wa10_0, wa88_12_0, wa88_15_0, wa88_16_0, wa88_17_0, wa85_7_0, wa85_8_0, wa85_9_0, wa85_13_0, wa85_14_0, wl0_0, wl1_0, wl2_0, wl3_0, wl4_0, wl5_0, wl6_0, wl7_0, wl8_0, wl9_0, wl10_0, wl11_0, wl12_0, wl13_0, wl14_0, wl15_0, wl16_0, wl17_0, wl7g85_0, wl12g85_0, wl12g88_0, wL_0, Bool.and_true, Bool.true_and, Bool.false_and, Bool.and_false, Bool.not_true, Bool.not_false]
    have QH := Q
    (repeat refine W_seq ?_)
    refine W_cond (b := false) rfl ?_
    simp only [Bool.false_eq_true, if_false]
    refine W_skip ?_
    simp only [go_sem]
    (repeat refine W_seq ?_); refine W_regionT [] ?_
    simp only [go_sem]
    (repeat refine W_seq ?_)
    refine W_block (W_loop (L_inv (fun j env M' => ∃ (x2 x3 x4 x6 x7 x8 x9 x10 x11 x12 x13 x14 x15 x16 x17 x18 x19 x20 x21 x22 x23 x24 x25 x26 x27 x28 x29 x30 x31 x32 x33 x34 x35 x36 x37 x38 x39 x40 x41 x42 x43 x44 x45 x46 x47 x48 x49 x50 x51 x52 x53 x54 x55 x56 x57 x58 x59 x60 x61 x62 x63 x64 x65 x66 x67 x68 x69 x70 x71 x72 x73 x74 x75 x76 x77 x78 x79 x80 x81 x82 x83 x84 x85 x86 x87 x88 x89 x90 x91 x92 x93 x94 x95 x96 x97 x98 x99 x100 x101 x102 x103 x104 x105 x106 x107 x108 x109 x110 x111 x112 x113 x114 x115 : AV) (i : Nat), env = [.agg (a.cells vn vd), .ptr ⟨S.length + 1, 0, 0⟩, x2, x3, x4, .int .i64 i, x6, x7, x8, x9, x10, x11, x12, x13, x14, x15, x16, x17, x18, x19, x20, x21, x22, x23, x24, x25, x26, x27, x28, x29, x30, x31, x32, x33, x34, x35, x36, x37, x38, x39, x40, x41, x42, x43, x44, x45, x46, x47, x48, x49, x50, x51, x52, x53, x54, x55, x56, x57, x58, x59, x60, x61, x62, x63, x64, x65, x66, x67, x68, x69, x70, x71, x72, x73, x74, x75, x76, x77, x78, x79, x80, x81, x82, x83, x84, x85, x86, x87, x88, x89, x90, x91, x92, x93, x94, x95, x96, x97, x98, x99, x100, x101, x102, x103, x104, x105, x106, x107, x108, x109, x110, x111, x112, x113, x114, x115] ∧ i + j = a.qids.length ∧ M' = ⟨H, [Block.row ⟨90, 18, TellR.cells a vn vd, false, false⟩, Block.row ⟨90, 18, TellR.cells a.own (a.ownN vn) (a.ownD vd), false, false⟩] :: S⟩ ∧ ∀ m (hm : m < a.qids.length), m < i → (a.qids[m]'hm).ok = true) (fun j env M2 => ?_) (a.qids.length) ?_))
    case refine_2 => exact ⟨_, _, _, _, _, _, _, _, _, _, _, _, _, _, _, _, _, _, _, _, _, _, _, _, _, _, _, _, _, _, _, _, _, _, _, _, _, _, _, _, _, _, _, _, _, _, _, _, _, _, _, _, _, _, _, _, _, _, _, _, _, _, _, _, _, _, _, _, _, _, _, _, _, _, _, _, _, _, _, _, _, _, _, _, _, _, _, _, _, _, _, _, _, _, _, _, _, _, _, _, _, _, _, _, _, _, _, _, _, _, _, _, _, 0, rfl, by omega, rfl, fun m _ h => by omega⟩
    refine exE fun x2 => exE fun x3 => exE fun x4 => exE fun x6 => exE fun x7 => exE fun x8 => exE fun x9 => exE fun x10 => exE fun x11 => exE fun x12 => exE fun x13 => exE fun x14 => exE fun x15 => exE fun x16 => exE fun x17 => exE fun x18 => exE fun x19 => exE fun x20 => exE fun x21 => exE fun x22 => exE fun x23 => exE fun x24 => exE fun x25 => exE fun x26 => exE fun x27 => exE fun x28 => exE fun x29 => exE fun x30 => exE fun x31 => exE fun x32 => exE fun x33 => exE fun x34 => exE fun x35 => exE fun x36 => exE fun x37 => exE fun x38 => exE fun x39 => exE fun x40 => exE fun x41 => exE fun x42 => exE fun x43 => exE fun x44 => exE fun x45 => exE fun x46 => exE fun x47 => exE fun x48 => exE fun x49 => exE fun x50 => exE fun x51 => exE fun x52 => exE fun x53 => exE fun x54 => exE fun x55 => exE fun x56 => exE fun x57 => exE fun x58 => exE fun x59 => exE fun x60 => exE fun x61 => exE fun x62 => exE fun x63 => exE fun x64 => exE fun x65 => exE fun x66 => exE fun x67 => exE fun x68 => exE fun x69 => exE fun x70 => exE fun x71 => exE fun x72 => exE fun x73 => exE fun x74 => exE fun x75 => exE fun x76 => exE fun x77 => exE fun x78 => exE fun x79 => exE fun x80 => exE fun x81 => exE fun x82 => exE fun x83 => exE fun x84 => exE fun x85 => exE fun x86 => exE fun x87 => exE fun x88 => exE fun x89 => exE fun x90 => exE fun x91 => exE fun x92 => exE fun x93 => exE fun x94 => exE fun x95 => exE fun x96 => exE fun x97 => exE fun x98 => exE fun x99 => exE fun x100 => exE fun x101 => exE fun x102 => exE fun x103 => exE fun x104 => exE fun x105 => exE fun x106 => exE fun x107 => exE fun x108 => exE fun x109 => exE fun x110 => exE fun x111 => exE fun x112 => exE fun x113 => exE fun x114 => exE fun x115 => ?_
    rintro ⟨i, rfl, hij, rfl, hno⟩
    (repeat refine W_seq ?_); refine W_regionT [] ?_
    simp only [go_sem, hn.len, wa0_0, wa1_0, wa2_0, wa3_0, wa4_0, wa5_0, wa6_0, wa7_0, wa8_0, wa9_0, wa10_0, wa88_12_0, wa88_15_0, wa88_16_0, wa88_17_0, wa85_7_0, wa85_8_0, wa85_9_0, wa85_13_0, wa85_14_0, wl0_0, wl1_0, wl2_0, wl3_0, wl4_0, wl5_0, wl6_0, wl7_0, wl8_0, wl9_0, wl10_0, wl11_0, wl12_0, wl13_0, wl14_0, wl15_0, wl16_0, wl17_0, wl7g85_0, wl12g85_0, wl12g88_0, wL_0]
    (repeat refine W_seq ?_)
    refine W_cond_if rfl (fun hb => ?_) (fun hb => ?_)
    · have hi : i < a.qids.length := by simpa using hb
      refine W_skip ?_
      simp only [go_sem]
      (repeat refine W_seq ?_)
      refine W_block ?_
      have a86 := at86 (S := [Block.row ⟨90, 18, TellR.cells a vn vd, false, false⟩, Block.row ⟨90, 18, TellR.cells a.own (a.ownN vn) (a.ownD vd), false, false⟩] :: S) hn hi
      (repeat refine W_seq ?_); refine W_regionT [] ?_
      simp only [go_sem, a86.1, a86.2, wa0_0, wa1_0, wa2_0, wa3_0, wa4_0, wa5_0, wa6_0, wa7_0, wa8_0, wa9_0, wa10_0, wa88_12_0, wa88_15_0, wa88_16_0, wa88_17_0, wa85_7_0, wa85_8_0, wa85_9_0, wa85_13_0, wa85_14_0, wl0_0, wl1_0, wl2_0, wl3_0, wl4_0, wl5_0, wl6_0, wl7_0, wl8_0, wl9_0, wl10_0, wl11_0, wl12_0, wl13_0, wl14_0, wl15_0, wl16_0, wl17_0, wl7g85_0, wl12g85_0, wl12g88_0, wL_0]
      refine AT_call rfl rfl (qidR110) fun v M1 hd1 h1 => ?_
      obtain ⟨hv, hM⟩ := h1; subst hv; subst hM
      simp only [go_sem]
      (repeat refine W_seq ?_); refine W_regionT [] ?_
      simp only [go_sem]
      (repeat refine W_seq ?_)
      refine W_cond_if rfl (fun hb => ?_) (fun hb => ?_)
      · have hbad : a.qids[i].ok = false := by simpa using hb
        (repeat refine W_seq ?_); refine W_regionT [] ?_
        simp only [go_sem]
        refine W_ret ⟨.inr rfl, _, rfl, rfl, ?_, rfl⟩
        have hmf : a.may = false := by
          cases hm : a.may with
          | false => rfl
          | true =>
            exfalso
            have h := TellR.may_ok hm a.qids[i] (List.mem_cons_of_mem _ (List.mem_cons_of_mem _ (List.getElem_mem hi)))
            rw [hbad] at h; cases h
        rw [hmf]; rfl
      · have hgood : a.qids[i].ok = true := by simpa using hb
        refine W_skip ?_
        simp only [go_sem]
        (repeat refine W_seq ?_); refine W_regionT [] ?_
        simp only [go_sem, show (i : Int) + 1 = ((i + 1 : Nat) : Int) from rfl, wrap_i64 (n := ((i + 1 : Nat) : Int)) (by omega) (by omega)]
        refine ⟨j - 1, by omega, _, _, _, _, _, _, _, _, _, _, _, _, _, _, _, _, _, _, _, _, _, _, _, _, _, _, _, _, _, _, _, _, _, _, _, _, _, _, _, _, _, _, _, _, _, _, _, _, _, _, _, _, _, _, _, _, _, _, _, _, _, _, _, _, _, _, _, _, _, _, _, _, _, _, _, _, _, _, _, _, _, _, _, _, _, _, _, _, _, _, _, _, _, _, _, _, _, _, _, _, _, _, _, _, _, _, _, _, _, _, _, _, _, i + 1, rfl, by omega, trivial, fun m hml hm => by
  rcases Nat.lt_or_ge m i with h | h
  · exact hno m hml h
  · obtain rfl : m = i := by omega
    exact hgood⟩
    · have hi : a.qids.length = i := by simp at hb; omega
      have hall : (a.qids.any fun q => !q.ok) = false := by
        rw [List.any_eq_false]
        intro s hs
        obtain ⟨m, hm⟩ := List.getElem?_of_mem hs
        obtain ⟨hml, hme⟩ := List.getElem?_eq_some_iff.1 hm
        rw [← hme, hno m hml (by omega)]; decide
      have ht : inB a.tag 0 65535 = true := by unfold inB; simp only [QH, Bool.and_true]
      have hcd : inB a.code 0 65535 = true := by unfold inB; simp only [QH, Bool.and_true]
      (repeat refine W_seq ?_)
      refine W_exit ?_
      simp only [go_sem]
      rcases ff7 (a.q.ok) (a.s.q.ok) (inB a.msize 0 4294967295) (inB a.iounit 0 4294967295) (inB a.count 0 4294967295) (inB a.s.mode 0 4294967295) (inB a.s.size 0 4611686018427387904) with Q | Q | Q | Q | Q | Q | Q | Q
      · (repeat refine W_seq ?_); refine W_regionT [] ?_
        simp (maxSteps := 1000000) only [go_sem, Q, wa0_0, wa1_0, wa2_0, wa3_0, wa4_0, wa5_0, wa6_0, wa7_0, wa8_0, wa9_0, wa10_0, wa88_12_0, wa88_15_0, wa88_16_0, wa88_17_0, wa85_7_0, wa85_8_0, wa85_9_0, wa85_13_0, wa85_14_0, wl0_0, wl1_0, wl2_0, wl3_0, wl4_0, wl5_0, wl6_0, wl7_0, wl8_0, wl9_0, wl10_0, wl11_0, wl12_0, wl13_0, wl14_0, wl15_0, wl16_0, wl17_0, wl7g85_0, wl12g85_0, wl12g88_0, wL_0]
        refine AT_call rfl rfl (qidR110) fun v M1 hd1 h1 => ?_
        obtain ⟨hv, hM⟩ := h1; subst hv; subst hM
        simp (maxSteps := 1000000) only [go_sem, Q, wa0_0, wa1_0, wa2_0, wa3_0, wa4_0, wa5_0, wa6_0, wa7_0, wa8_0, wa9_0, wa10_0, wa88_12_0, wa88_15_0, wa88_16_0, wa88_17_0, wa85_7_0, wa85_8_0, wa85_9_0, wa85_13_0, wa85_14_0, wl0_0, wl1_0, wl2_0, wl3_0, wl4_0, wl5_0, wl6_0, wl7_0, wl8_0, wl9_0, wl10_0, wl11_0, wl12_0, wl13_0, wl14_0, wl15_0, wl16_0, wl17_0, wl7g85_0, wl12g85_0, wl12g88_0, wL_0]
        refine W_ret ⟨.inr rfl, _, rfl, rfl, ?_, rfl⟩
        rw [show a.may = false by unfold TellR.may; simp only [QH, ht, hcd, hall, Q, List.any_cons, Bool.or_false, Bool.false_or, Bool.or_true, Bool.true_or, Bool.and_true, Bool.true_and, Bool.false_and, Bool.and_false, Bool.not_true, Bool.not_false]]; rfl
      · (repeat refine W_seq ?_); refine W_regionT [] ?_
        simp (maxSteps := 1000000) only [go_sem, Q, wa0_0, wa1_0, wa2_0, wa3_0, wa4_0, wa5_0, wa6_0, wa7_0, wa8_0, wa9_0, wa10_0, wa88_12_0, wa88_15_0, wa88_16_0, wa88_17_0, wa85_7_0, wa85_8_0, wa85_9_0, wa85_13_0, wa85_14_0, wl0_0, wl1_0, wl2_0, wl3_0, wl4_0, wl5_0, wl6_0, wl7_0, wl8_0, wl9_0, wl10_0, wl11_0, wl12_0, wl13_0, wl14_0, wl15_0, wl16_0, wl17_0, wl7g85_0, wl12g85_0, wl12g88_0, wL_0]
        refine AT_call rfl rfl (qidR110) fun v M1 hd1 h1 => ?_
        obtain ⟨hv, hM⟩ := h1; subst hv; subst hM
        simp (maxSteps := 1000000) only [go_sem, Q, wa0_0, wa1_0, wa2_0, wa3_0, wa4_0, wa5_0, wa6_0, wa7_0, wa8_0, wa9_0, wa10_0, wa88_12_0, wa88_15_0, wa88_16_0, wa88_17_0, wa85_7_0, wa85_8_0, wa85_9_0, wa85_13_0, wa85_14_0, wl0_0, wl1_0, wl2_0, wl3_0, wl4_0, wl5_0, wl6_0, wl7_0, wl8_0, wl9_0, wl10_0, wl11_0, wl12_0, wl13_0, wl14_0, wl15_0, wl16_0, wl17_0, wl7g85_0, wl12g85_0, wl12g88_0, wL_0]
        refine AT_call rfl rfl (qidR110) fun v M1 hd1 h1 => ?_
        obtain ⟨hv, hM⟩ := h1; subst hv; subst hM
        simp (maxSteps := 1000000) only [go_sem, Q, wa0_0, wa1_0, wa2_0, wa3_0, wa4_0, wa5_0, wa6_0, wa7_0, wa8_0, wa9_0, wa10_0, wa88_12_0, wa88_15_0, wa88_16_0, wa88_17_0, wa85_7_0, wa85_8_0, wa85_9_0, wa85_13_0, wa85_14_0, wl0_0, wl1_0, wl2_0, wl3_0, wl4_0, wl5_0, wl6_0, wl7_0, wl8_0, wl9_0, wl10_0, wl11_0, wl12_0, wl13_0, wl14_0, wl15_0, wl16_0, wl17_0, wl7g85_0, wl12g85_0, wl12g88_0, wL_0]
        refine W_ret ⟨.inr rfl, _, rfl, rfl, ?_, rfl⟩
        rw [show a.may = false by unfold TellR.may; simp only [QH, ht, hcd, hall, Q, List.any_cons, Bool.or_false, Bool.false_or, Bool.or_true, Bool.true_or, Bool.and_true, Bool.true_and, Bool.false_and, Bool.and_false, Bool.not_true, Bool.not_false]]; rfl
      · (repeat refine W_seq ?_); refine W_regionT [] ?_
        simp (maxSteps := 1000000) only [go_sem, Q, wa0_0, wa1_0, wa2_0, wa3_0, wa4_0, wa5_0, wa6_0, wa7_0, wa8_0, wa9_0, wa10_0, wa88_12_0, wa88_15_0, wa88_16_0, wa88_17_0, wa85_7_0, wa85_8_0, wa85_9_0, wa85_13_0, wa85_14_0, wl0_0, wl1_0, wl2_0, wl3_0, wl4_0, wl5_0, wl6_0, wl7_0, wl8_0, wl9_0, wl10_0, wl11_0, wl12_0, wl13_0, wl14_0, wl15_0, wl16_0, wl17_0, wl7g85_0, wl12g85_0, wl12g88_0, wL_0]
        refine AT_call rfl rfl (qidR110) fun v M1 hd1 h1 => ?_
        obtain ⟨hv, hM⟩ := h1; subst hv; subst hM
        simp (maxSteps := 1000000) only [go_sem, Q, wa0_0, wa1_0, wa2_0, wa3_0, wa4_0, wa5_0, wa6_0, wa7_0, wa8_0, wa9_0, wa10_0, wa88_12_0, wa88_15_0, wa88_16_0, wa88_17_0, wa85_7_0, wa85_8_0, wa85_9_0, wa85_13_0, wa85_14_0, wl0_0, wl1_0, wl2_0, wl3_0, wl4_0, wl5_0, wl6_0, wl7_0, wl8_0, wl9_0, wl10_0, wl11_0, wl12_0, wl13_0, wl14_0, wl15_0, wl16_0, wl17_0, wl7g85_0, wl12g85_0, wl12g88_0, wL_0]
        refine AT_call rfl rfl (qidR110) fun v M1 hd1 h1 => ?_
        obtain ⟨hv, hM⟩ := h1; subst hv; subst hM
        simp (maxSteps := 1000000) only [go_sem, Q, wa0_0, wa1_0, wa2_0, wa3_0, wa4_0, wa5_0, wa6_0, wa7_0, wa8_0, wa9_0, wa10_0, wa88_12_0, wa88_15_0, wa88_16_0, wa88_17_0, wa85_7_0, wa85_8_0, wa85_9_0, wa85_13_0, wa85_14_0, wl0_0, wl1_0, wl2_0, wl3_0, wl4_0, wl5_0, wl6_0, wl7_0, wl8_0, wl9_0, wl10_0, wl11_0, wl12_0, wl13_0, wl14_0, wl15_0, wl16_0, wl17_0, wl7g85_0, wl12g85_0, wl12g88_0, wL_0]
        refine AT_call rfl rfl (word111) fun v M1 hd1 h1 => ?_
        obtain ⟨hv, hM⟩ := h1; subst hv; subst hM
        simp (maxSteps := 1000000) only [go_sem, Q, wa0_0, wa1_0, wa2_0, wa3_0, wa4_0, wa5_0, wa6_0, wa7_0, wa8_0, wa9_0, wa10_0, wa88_12_0, wa88_15_0, wa88_16_0, wa88_17_0, wa85_7_0, wa85_8_0, wa85_9_0, wa85_13_0, wa85_14_0, wl0_0, wl1_0, wl2_0, wl3_0, wl4_0, wl5_0, wl6_0, wl7_0, wl8_0, wl9_0, wl10_0, wl11_0, wl12_0, wl13_0, wl14_0, wl15_0, wl16_0, wl17_0, wl7g85_0, wl12g85_0, wl12g88_0, wL_0]
        refine W_ret ⟨.inr rfl, _, rfl, rfl, ?_, rfl⟩
        rw [show a.may = false by unfold TellR.may; simp only [QH, ht, hcd, hall, Q, List.any_cons, Bool.or_false, Bool.false_or, Bool.or_true, Bool.true_or, Bool.and_true, Bool.true_and, Bool.false_and, Bool.and_false, Bool.not_true, Bool.not_false]]; rfl
      · (repeat refine W_seq ?_); refine W_regionT [] ?_
        simp (maxSteps := 1000000) only [go_sem, Q, wa0_0, wa1_0, wa2_0, wa3_0, wa4_0, wa5_0, wa6_0, wa7_0, wa8_0, wa9_0, wa10_0, wa88_12_0, wa88_15_0, wa88_16_0, wa88_17_0, wa85_7_0, wa85_8_0, wa85_9_0, wa85_13_0, wa85_14_0, wl0_0, wl1_0, wl2_0, wl3_0, wl4_0, wl5_0, wl6_0, wl7_0, wl8_0, wl9_0, wl10_0, wl11_0, wl12_0, wl13_0, wl14_0, wl15_0, wl16_0, wl17_0, wl7g85_0, wl12g85_0, wl12g88_0, wL_0]
        refine AT_call rfl rfl (qidR110) fun v M1 hd1 h1 => ?_
        obtain ⟨hv, hM⟩ := h1; subst hv; subst hM
        simp (maxSteps := 1000000) only [go_sem, Q, wa0_0, wa1_0, wa2_0, wa3_0, wa4_0, wa5_0, wa6_0, wa7_0, wa8_0, wa9_0, wa10_0, wa88_12_0, wa88_15_0, wa88_16_0, wa88_17_0, wa85_7_0, wa85_8_0, wa85_9_0, wa85_13_0, wa85_14_0, wl0_0, wl1_0, wl2_0, wl3_0, wl4_0, wl5_0, wl6_0, wl7_0, wl8_0, wl9_0, wl10_0, wl11_0, wl12_0, wl13_0, wl14_0, wl15_0, wl16_0, wl17_0, wl7g85_0, wl12g85_0, wl12g88_0, wL_0]
        refine AT_call rfl rfl (qidR110) fun v M1 hd1 h1 => ?_
        obtain ⟨hv, hM⟩ := h1; subst hv; subst hM
        simp (maxSteps := 1000000) only [go_sem, Q, wa0_0, wa1_0, wa2_0, wa3_0, wa4_0, wa5_0, wa6_0, wa7_0, wa8_0, wa9_0, wa10_0, wa88_12_0, wa88_15_0, wa88_16_0, wa88_17_0, wa85_7_0, wa85_8_0, wa85_9_0, wa85_13_0, wa85_14_0, wl0_0, wl1_0, wl2_0, wl3_0, wl4_0, wl5_0, wl6_0, wl7_0, wl8_0, wl9_0, wl10_0, wl11_0, wl12_0, wl13_0, wl14_0, wl15_0, wl16_0, wl17_0, wl7g85_0, wl12g85_0, wl12g88_0, wL_0]
        refine AT_call rfl rfl (word111) fun v M1 hd1 h1 => ?_
        obtain ⟨hv, hM⟩ := h1; subst hv; subst hM
        simp (maxSteps := 1000000) only [go_sem, Q, wa0_0, wa1_0, wa2_0, wa3_0, wa4_0, wa5_0, wa6_0, wa7_0, wa8_0, wa9_0, wa10_0, wa88_12_0, wa88_15_0, wa88_16_0, wa88_17_0, wa85_7_0, wa85_8_0, wa85_9_0, wa85_13_0, wa85_14_0, wl0_0, wl1_0, wl2_0, wl3_0, wl4_0, wl5_0, wl6_0, wl7_0, wl8_0, wl9_0, wl10_0, wl11_0, wl12_0, wl13_0, wl14_0, wl15_0, wl16_0, wl17_0, wl7g85_0, wl12g85_0, wl12g88_0, wL_0]
        refine AT_call rfl rfl (word111) fun v M1 hd1 h1 => ?_
        obtain ⟨hv, hM⟩ := h1; subst hv; subst hM
        simp (maxSteps := 1000000) only [go_sem, Q, wa0_0, wa1_0, wa2_0, wa3_0, wa4_0, wa5_0, wa6_0, wa7_0, wa8_0, wa9_0, wa10_0, wa88_12_0, wa88_15_0, wa88_16_0, wa88_17_0, wa85_7_0, wa85_8_0, wa85_9_0, wa85_13_0, wa85_14_0, wl0_0, wl1_0, wl2_0, wl3_0, wl4_0, wl5_0, wl6_0, wl7_0, wl8_0, wl9_0, wl10_0, wl11_0, wl12_0, wl13_0, wl14_0, wl15_0, wl16_0, wl17_0, wl7g85_0, wl12g85_0, wl12g88_0, wL_0]
        refine W_ret ⟨.inr rfl, _, rfl, rfl, ?_, rfl⟩
        rw [show a.may = false by unfold TellR.may; simp only [QH, ht, hcd, hall, Q, List.any_cons, Bool.or_false, Bool.false_or, Bool.or_true, Bool.true_or, Bool.and_true, Bool.true_and, Bool.false_and, Bool.and_false, Bool.not_true, Bool.not_false]]; rfl
      · (repeat refine W_seq ?_); refine W_regionT [] ?_
        simp (maxSteps := 1000000) only [go_sem, Q, wa0_0, wa1_0, wa2_0, wa3_0, wa4_0, wa5_0, wa6_0, wa7_0, wa8_0, wa9_0, wa10_0, wa88_12_0, wa88_15_0, wa88_16_0, wa88_17_0, wa85_7_0, wa85_8_0, wa85_9_0, wa85_13_0, wa85_14_0, wl0_0, wl1_0, wl2_0, wl3_0, wl4_0, wl5_0, wl6_0, wl7_0, wl8_0, wl9_0, wl10_0, wl11_0, wl12_0, wl13_0, wl14_0, wl15_0, wl16_0, wl17_0, wl7g85_0, wl12g85_0, wl12g88_0, wL_0]
        refine AT_call rfl rfl (qidR110) fun v M1 hd1 h1 => ?_
        obtain ⟨hv, hM⟩ := h1; subst hv; subst hM
        simp (maxSteps := 1000000) only [go_sem, Q, wa0_0, wa1_0, wa2_0, wa3_0, wa4_0, wa5_0, wa6_0, wa7_0, wa8_0, wa9_0, wa10_0, wa88_12_0, wa88_15_0, wa88_16_0, wa88_17_0, wa85_7_0, wa85_8_0, wa85_9_0, wa85_13_0, wa85_14_0, wl0_0, wl1_0, wl2_0, wl3_0, wl4_0, wl5_0, wl6_0, wl7_0, wl8_0, wl9_0, wl10_0, wl11_0, wl12_0, wl13_0, wl14_0, wl15_0, wl16_0, wl17_0, wl7g85_0, wl12g85_0, wl12g88_0, wL_0]
        refine AT_call rfl rfl (qidR110) fun v M1 hd1 h1 => ?_
        obtain ⟨hv, hM⟩ := h1; subst hv; subst hM
        simp (maxSteps := 1000000) only [go_sem, Q, wa0_0, wa1_0, wa2_0, wa3_0, wa4_0, wa5_0, wa6_0, wa7_0, wa8_0, wa9_0, wa10_0, wa88_12_0, wa88_15_0, wa88_16_0, wa88_17_0, wa85_7_0, wa85_8_0, wa85_9_0, wa85_13_0, wa85_14_0, wl0_0, wl1_0, wl2_0, wl3_0, wl4_0, wl5_0, wl6_0, wl7_0, wl8_0, wl9_0, wl10_0, wl11_0, wl12_0, wl13_0, wl14_0, wl15_0, wl16_0, wl17_0, wl7g85_0, wl12g85_0, wl12g88_0, wL_0]
        refine AT_call rfl rfl (word111) fun v M1 hd1 h1 => ?_
        obtain ⟨hv, hM⟩ := h1; subst hv; subst hM
        simp (maxSteps := 1000000) only [go_sem, Q, wa0_0, wa1_0, wa2_0, wa3_0, wa4_0, wa5_0, wa6_0, wa7_0, wa8_0, wa9_0, wa10_0, wa88_12_0, wa88_15_0, wa88_16_0, wa88_17_0, wa85_7_0, wa85_8_0, wa85_9_0, wa85_13_0, wa85_14_0, wl0_0, wl1_0, wl2_0, wl3_0, wl4_0, wl5_0, wl6_0, wl7_0, wl8_0, wl9_0, wl10_0, wl11_0, wl12_0, wl13_0, wl14_0, wl15_0, wl16_0, wl17_0, wl7g85_0, wl12g85_0, wl12g88_0, wL_0]
        refine AT_call rfl rfl (word111) fun v M1 hd1 h1 => ?_
        obtain ⟨hv, hM⟩ := h1; subst hv; subst hM
        simp (maxSteps := 1000000) only [go_sem, Q, wa0_0, wa1_0, wa2_0, wa3_0, wa4_0, wa5_0, wa6_0, wa7_0, wa8_0, wa9_0, wa10_0, wa88_12_0, wa88_15_0, wa88_16_0, wa88_17_0, wa85_7_0, wa85_8_0, wa85_9_0, wa85_13_0, wa85_14_0, wl0_0, wl1_0, wl2_0, wl3_0, wl4_0, wl5_0, wl6_0, wl7_0, wl8_0, wl9_0, wl10_0, wl11_0, wl12_0, wl13_0, wl14_0, wl15_0, wl16_0, wl17_0, wl7g85_0, wl12g85_0, wl12g88_0, wL_0]
        refine AT_call rfl rfl (word111) fun v M1 hd1 h1 => ?_
        obtain ⟨hv, hM⟩ := h1; subst hv; subst hM
        simp (maxSteps := 1000000) only [go_sem, Q, wa0_0, wa1_0, wa2_0, wa3_0, wa4_0, wa5_0, wa6_0, wa7_0, wa8_0, wa9_0, wa10_0, wa88_12_0, wa88_15_0, wa88_16_0, wa88_17_0, wa85_7_0, wa85_8_0, wa85_9_0, wa85_13_0, wa85_14_0, wl0_0, wl1_0, wl2_0, wl3_0, wl4_0, wl5_0, wl6_0, wl7_0, wl8_0, wl9_0, wl10_0, wl11_0, wl12_0, wl13_0, wl14_0, wl15_0, wl16_0, wl17_0, wl7g85_0, wl12g85_0, wl12g88_0, wL_0]
        refine W_ret ⟨.inr rfl, _, rfl, rfl, ?_, rfl⟩
        rw [show a.may = false by unfold TellR.may; simp only [QH, ht, hcd, hall, Q, List.any_cons, Bool.or_false, Bool.false_or, Bool.or_true, Bool.true_or, Bool.and_true, Bool.true_and, Bool.false_and, Bool.and_false, Bool.not_true, Bool.not_false]]; rfl
      · (repeat refine W_seq ?_); refine W_regionT [] ?_
        simp (maxSteps := 1000000) only [go_sem, Q, wa0_0, wa1_0, wa2_0, wa3_0, wa4_0, wa5_0, wa6_0, wa7_0, wa8_0, wa9_0, wa10_0, wa88_12_0, wa88_15_0, wa88_16_0, wa88_17_0, wa85_7_0, wa85_8_0, wa85_9_0, wa85_13_0, wa85_14_0, wl0_0, wl1_0, wl2_0, wl3_0, wl4_0, wl5_0, wl6_0, wl7_0, wl8_0, wl9_0, wl10_0, wl11_0, wl12_0, wl13_0, wl14_0, wl15_0, wl16_0, wl17_0, wl7g85_0, wl12g85_0, wl12g88_0, wL_0]
        refine AT_call rfl rfl (qidR110) fun v M1 hd1 h1 => ?_
        obtain ⟨hv, hM⟩ := h1; subst hv; subst hM
        simp (maxSteps := 1000000) only [go_sem, Q, wa0_0, wa1_0, wa2_0, wa3_0, wa4_0, wa5_0, wa6_0, wa7_0, wa8_0, wa9_0, wa10_0, wa88_12_0, wa88_15_0, wa88_16_0, wa88_17_0, wa85_7_0, wa85_8_0, wa85_9_0, wa85_13_0, wa85_14_0, wl0_0, wl1_0, wl2_0, wl3_0, wl4_0, wl5_0, wl6_0, wl7_0, wl8_0, wl9_0, wl10_0, wl11_0, wl12_0, wl13_0, wl14_0, wl15_0, wl16_0, wl17_0, wl7g85_0, wl12g85_0, wl12g88_0, wL_0]
        refine AT_call rfl rfl (qidR110) fun v M1 hd1 h1 => ?_
        obtain ⟨hv, hM⟩ := h1; subst hv; subst hM
        simp (maxSteps := 1000000) only [go_sem, Q, wa0_0, wa1_0, wa2_0, wa3_0, wa4_0, wa5_0, wa6_0, wa7_0, wa8_0, wa9_0, wa10_0, wa88_12_0, wa88_15_0, wa88_16_0, wa88_17_0, wa85_7_0, wa85_8_0, wa85_9_0, wa85_13_0, wa85_14_0, wl0_0, wl1_0, wl2_0, wl3_0, wl4_0, wl5_0, wl6_0, wl7_0, wl8_0, wl9_0, wl10_0, wl11_0, wl12_0, wl13_0, wl14_0, wl15_0, wl16_0, wl17_0, wl7g85_0, wl12g85_0, wl12g88_0, wL_0]
        refine AT_call rfl rfl (word111) fun v M1 hd1 h1 => ?_
        obtain ⟨hv, hM⟩ := h1; subst hv; subst hM
        simp (maxSteps := 1000000) only [go_sem, Q, wa0_0, wa1_0, wa2_0, wa3_0, wa4_0, wa5_0, wa6_0, wa7_0, wa8_0, wa9_0, wa10_0, wa88_12_0, wa88_15_0, wa88_16_0, wa88_17_0, wa85_7_0, wa85_8_0, wa85_9_0, wa85_13_0, wa85_14_0, wl0_0, wl1_0, wl2_0, wl3_0, wl4_0, wl5_0, wl6_0, wl7_0, wl8_0, wl9_0, wl10_0, wl11_0, wl12_0, wl13_0, wl14_0, wl15_0, wl16_0, wl17_0, wl7g85_0, wl12g85_0, wl12g88_0, wL_0]
        refine AT_call rfl rfl (word111) fun v M1 hd1 h1 => ?_
        obtain ⟨hv, hM⟩ := h1; subst hv; subst hM
        simp (maxSteps := 1000000) only [go_sem, Q, wa0_0, wa1_0, wa2_0, wa3_0, wa4_0, wa5_0, wa6_0, wa7_0, wa8_0, wa9_0, wa10_0, wa88_12_0, wa88_15_0, wa88_16_0, wa88_17_0, wa85_7_0, wa85_8_0, wa85_9_0, wa85_13_0, wa85_14_0, wl0_0, wl1_0, wl2_0, wl3_0, wl4_0, wl5_0, wl6_0, wl7_0, wl8_0, wl9_0, wl10_0, wl11_0, wl12_0, wl13_0, wl14_0, wl15_0, wl16_0, wl17_0, wl7g85_0, wl12g85_0, wl12g88_0, wL_0]
        refine AT_call rfl rfl (word111) fun v M1 hd1 h1 => ?_
        obtain ⟨hv, hM⟩ := h1; subst hv; subst hM
        simp (maxSteps := 1000000) only [go_sem, Q, wa0_0, wa1_0, wa2_0, wa3_0, wa4_0, wa5_0, wa6_0, wa7_0, wa8_0, wa9_0, wa10_0, wa88_12_0, wa88_15_0, wa88_16_0, wa88_17_0, wa85_7_0, wa85_8_0, wa85_9_0, wa85_13_0, wa85_14_0, wl0_0, wl1_0, wl2_0, wl3_0, wl4_0, wl5_0, wl6_0, wl7_0, wl8_0, wl9_0, wl10_0, wl11_0, wl12_0, wl13_0, wl14_0, wl15_0, wl16_0, wl17_0, wl7g85_0, wl12g85_0, wl12g88_0, wL_0]
        refine AT_call rfl rfl (word111) fun v M1 hd1 h1 => ?_
        obtain ⟨hv, hM⟩ := h1; subst hv; subst hM
        simp (maxSteps := 1000000) only [go_sem, Q, wa0_0, wa1_0, wa2_0, wa3_0, wa4_0, wa5_0, wa6_0, wa7_0, wa8_0, wa9_0, wa10_0, wa88_12_0, wa88_15_0, wa88_16_0, wa88_17_0, wa85_7_0, wa85_8_0, wa85_9_0, wa85_13_0, wa85_14_0, wl0_0, wl1_0, wl2_0, wl3_0, wl4_0, wl5_0, wl6_0, wl7_0, wl8_0, wl9_0, wl10_0, wl11_0, wl12_0, wl13_0, wl14_0, wl15_0, wl16_0, wl17_0, wl7g85_0, wl12g85_0, wl12g88_0, wL_0]
        refine W_ret ⟨.inr rfl, _, rfl, rfl, ?_, rfl⟩
        rw [show a.may = false by unfold TellR.may; simp only [QH, ht, hcd, hall, Q, List.any_cons, Bool.or_false, Bool.false_or, Bool.or_true, Bool.true_or, Bool.and_true, Bool.true_and, Bool.false_and, Bool.and_false, Bool.not_true, Bool.not_false]]; rfl
      · (repeat refine W_seq ?_); refine W_regionT [] ?_
        simp (maxSteps := 1000000) only [go_sem, Q, wa0_0, wa1_0, wa2_0, wa3_0, wa4_0, wa5_0, wa6_0, wa7_0, wa8_0, wa9_0, wa10_0, wa88_12_0, wa88_15_0, wa88_16_0, wa88_17_0, wa85_7_0, wa85_8_0, wa85_9_0, wa85_13_0, wa85_14_0, wl0_0, wl1_0, wl2_0, wl3_0, wl4_0, wl5_0, wl6_0, wl7_0, wl8_0, wl9_0, wl10_0, wl11_0, wl12_0, wl13_0, wl14_0, wl15_0, wl16_0, wl17_0, wl7g85_0, wl12g85_0, wl12g88_0, wL_0]
        refine AT_call rfl rfl (qidR110) fun v M1 hd1 h1 => ?_
        obtain ⟨hv, hM⟩ := h1; subst hv; subst hM
        simp (maxSteps := 1000000) only [go_sem, Q, wa0_0, wa1_0, wa2_0, wa3_0, wa4_0, wa5_0, wa6_0, wa7_0, wa8_0, wa9_0, wa10_0, wa88_12_0, wa88_15_0, wa88_16_0, wa88_17_0, wa85_7_0, wa85_8_0, wa85_9_0, wa85_13_0, wa85_14_0, wl0_0, wl1_0, wl2_0, wl3_0, wl4_0, wl5_0, wl6_0, wl7_0, wl8_0, wl9_0, wl10_0, wl11_0, wl12_0, wl13_0, wl14_0, wl15_0, wl16_0, wl17_0, wl7g85_0, wl12g85_0, wl12g88_0, wL_0]
        refine AT_call rfl rfl (qidR110) fun v M1 hd1 h1 => ?_
        obtain ⟨hv, hM⟩ := h1; subst hv; subst hM
        simp (maxSteps := 1000000) only [go_sem, Q, wa0_0, wa1_0, wa2_0, wa3_0, wa4_0, wa5_0, wa6_0, wa7_0, wa8_0, wa9_0, wa10_0, wa88_12_0, wa88_15_0, wa88_16_0, wa88_17_0, wa85_7_0, wa85_8_0, wa85_9_0, wa85_13_0, wa85_14_0, wl0_0, wl1_0, wl2_0, wl3_0, wl4_0, wl5_0, wl6_0, wl7_0, wl8_0, wl9_0, wl10_0, wl11_0, wl12_0, wl13_0, wl14_0, wl15_0, wl16_0, wl17_0, wl7g85_0, wl12g85_0, wl12g88_0, wL_0]
        refine AT_call rfl rfl (word111) fun v M1 hd1 h1 => ?_
        obtain ⟨hv, hM⟩ := h1; subst hv; subst hM
        simp (maxSteps := 1000000) only [go_sem, Q, wa0_0, wa1_0, wa2_0, wa3_0, wa4_0, wa5_0, wa6_0, wa7_0, wa8_0, wa9_0, wa10_0, wa88_12_0, wa88_15_0, wa88_16_0, wa88_17_0, wa85_7_0, wa85_8_0, wa85_9_0, wa85_13_0, wa85_14_0, wl0_0, wl1_0, wl2_0, wl3_0, wl4_0, wl5_0, wl6_0, wl7_0, wl8_0, wl9_0, wl10_0, wl11_0, wl12_0, wl13_0, wl14_0, wl15_0, wl16_0, wl17_0, wl7g85_0, wl12g85_0, wl12g88_0, wL_0]
        refine AT_call rfl rfl (word111) fun v M1 hd1 h1 => ?_
        obtain ⟨hv, hM⟩ := h1; subst hv; subst hM
        simp (maxSteps := 1000000) only [go_sem, Q, wa0_0, wa1_0, wa2_0, wa3_0, wa4_0, wa5_0, wa6_0, wa7_0, wa8_0, wa9_0, wa10_0, wa88_12_0, wa88_15_0, wa88_16_0, wa88_17_0, wa85_7_0, wa85_8_0, wa85_9_0, wa85_13_0, wa85_14_0, wl0_0, wl1_0, wl2_0, wl3_0, wl4_0, wl5_0, wl6_0, wl7_0, wl8_0, wl9_0, wl10_0, wl11_0, wl12_0, wl13_0, wl14_0, wl15_0, wl16_0, wl17_0, wl7g85_0, wl12g85_0, wl12g88_0, wL_0]
        refine AT_call rfl rfl (word111) fun v M1 hd1 h1 => ?_
        obtain ⟨hv, hM⟩ := h1; subst hv; subst hM
        simp (maxSteps := 1000000) only [go_sem, Q, wa0_0, wa1_0, wa2_0, wa3_0, wa4_0, wa5_0, wa6_0, wa7_0, wa8_0, wa9_0, wa10_0, wa88_12_0, wa88_15_0, wa88_16_0, wa88_17_0, wa85_7_0, wa85_8_0, wa85_9_0, wa85_13_0, wa85_14_0, wl0_0, wl1_0, wl2_0, wl3_0, wl4_0, wl5_0, wl6_0, wl7_0, wl8_0, wl9_0, wl10_0, wl11_0, wl12_0, wl13_0, wl14_0, wl15_0, wl16_0, wl17_0, wl7g85_0, wl12g85_0, wl12g88_0, wL_0]
        refine AT_call rfl rfl (word111) fun v M1 hd1 h1 => ?_
        obtain ⟨hv, hM⟩ := h1; subst hv; subst hM
        simp (maxSteps := 1000000) only [go_sem, Q, wa0_0, wa1_0, wa2_0, wa3_0, wa4_0, wa5_0, wa6_0, wa7_0, wa8_0, wa9_0, wa10_0, wa88_12_0, wa88_15_0, wa88_16_0, wa88_17_0, wa85_7_0, wa85_8_0, wa85_9_0, wa85_13_0, wa85_14_0, wl0_0, wl1_0, wl2_0, wl3_0, wl4_0, wl5_0, wl6_0, wl7_0, wl8_0, wl9_0, wl10_0, wl11_0, wl12_0, wl13_0, wl14_0, wl15_0, wl16_0, wl17_0, wl7g85_0, wl12g85_0, wl12g88_0, wL_0]
        refine AT_call rfl rfl (long112) fun v M1 hd1 h1 => ?_
        obtain ⟨hv, hM⟩ := h1; subst hv; subst hM
        simp (maxSteps := 1000000) only [go_sem, Q, wa0_0, wa1_0, wa2_0, wa3_0, wa4_0, wa5_0, wa6_0, wa7_0, wa8_0, wa9_0, wa10_0, wa88_12_0, wa88_15_0, wa88_16_0, wa88_17_0, wa85_7_0, wa85_8_0, wa85_9_0, wa85_13_0, wa85_14_0, wl0_0, wl1_0, wl2_0, wl3_0, wl4_0, wl5_0, wl6_0, wl7_0, wl8_0, wl9_0, wl10_0, wl11_0, wl12_0, wl13_0, wl14_0, wl15_0, wl16_0, wl17_0, wl7g85_0, wl12g85_0, wl12g88_0, wL_0]
        refine W_ret ⟨.inr rfl, _, rfl, rfl, ?_, rfl⟩
        rw [show a.may = false by unfold TellR.may; simp only [QH, ht, hcd, hall, Q, List.any_cons, Bool.or_false, Bool.false_or, Bool.or_true, Bool.true_or, Bool.and_true, Bool.true_and, Bool.false_and, Bool.and_false, Bool.not_true, Bool.not_false]]; rfl
      · (repeat refine W_seq ?_); refine W_regionT [] ?_
        simp (maxSteps := 1000000) only [go_sem, Q, wa0_0, wa1_0, wa2_0, wa3_0, wa4_0, wa5_0, wa6_0, wa7_0, wa8_0, wa9_0, wa10_0, wa88_12_0, wa88_15_0, wa88_16_0, wa88_17_0, wa85_7_0, wa85_8_0, wa85_9_0, wa85_13_0, wa85_14_0, wl0_0, wl1_0, wl2_0, wl3_0, wl4_0, wl5_0, wl6_0, wl7_0, wl8_0, wl9_0, wl10_0, wl11_0, wl12_0, wl13_0, wl14_0, wl15_0, wl16_0, wl17_0, wl7g85_0, wl12g85_0, wl12g88_0, wL_0]
        refine AT_call rfl rfl (qidR110) fun v M1 hd1 h1 => ?_
        obtain ⟨hv, hM⟩ := h1; subst hv; subst hM
        simp (maxSteps := 1000000) only [go_sem, Q, wa0_0, wa1_0, wa2_0, wa3_0, wa4_0, wa5_0, wa6_0, wa7_0, wa8_0, wa9_0, wa10_0, wa88_12_0, wa88_15_0, wa88_16_0, wa88_17_0, wa85_7_0, wa85_8_0, wa85_9_0, wa85_13_0, wa85_14_0, wl0_0, wl1_0, wl2_0, wl3_0, wl4_0, wl5_0, wl6_0, wl7_0, wl8_0, wl9_0, wl10_0, wl11_0, wl12_0, wl13_0, wl14_0, wl15_0, wl16_0, wl17_0, wl7g85_0, wl12g85_0, wl12g88_0, wL_0]
        refine AT_call rfl rfl (qidR110) fun v M1 hd1 h1 => ?_
        obtain ⟨hv, hM⟩ := h1; subst hv; subst hM
        simp (maxSteps := 1000000) only [go_sem, Q, wa0_0, wa1_0, wa2_0, wa3_0, wa4_0, wa5_0, wa6_0, wa7_0, wa8_0, wa9_0, wa10_0, wa88_12_0, wa88_15_0, wa88_16_0, wa88_17_0, wa85_7_0, wa85_8_0, wa85_9_0, wa85_13_0, wa85_14_0, wl0_0, wl1_0, wl2_0, wl3_0, wl4_0, wl5_0, wl6_0, wl7_0, wl8_0, wl9_0, wl10_0, wl11_0, wl12_0, wl13_0, wl14_0, wl15_0, wl16_0, wl17_0, wl7g85_0, wl12g85_0, wl12g88_0, wL_0]
        refine AT_call rfl rfl (word111) fun v M1 hd1 h1 => ?_
        obtain ⟨hv, hM⟩ := h1; subst hv; subst hM
        simp (maxSteps := 1000000) only [go_sem, Q, wa0_0, wa1_0, wa2_0, wa3_0, wa4_0, wa5_0, wa6_0, wa7_0, wa8_0, wa9_0, wa10_0, wa88_12_0, wa88_15_0, wa88_16_0, wa88_17_0, wa85_7_0, wa85_8_0, wa85_9_0, wa85_13_0, wa85_14_0, wl0_0, wl1_0, wl2_0, wl3_0, wl4_0, wl5_0, wl6_0, wl7_0, wl8_0, wl9_0, wl10_0, wl11_0, wl12_0, wl13_0, wl14_0, wl15_0, wl16_0, wl17_0, wl7g85_0, wl12g85_0, wl12g88_0, wL_0]
        refine AT_call rfl rfl (word111) fun v M1 hd1 h1 => ?_
        obtain ⟨hv, hM⟩ := h1; subst hv; subst hM
        simp (maxSteps := 1000000) only [go_sem, Q, wa0_0, wa1_0, wa2_0, wa3_0, wa4_0, wa5_0, wa6_0, wa7_0, wa8_0, wa9_0, wa10_0, wa88_12_0, wa88_15_0, wa88_16_0, wa88_17_0, wa85_7_0, wa85_8_0, wa85_9_0, wa85_13_0, wa85_14_0, wl0_0, wl1_0, wl2_0, wl3_0, wl4_0, wl5_0, wl6_0, wl7_0, wl8_0, wl9_0, wl10_0, wl11_0, wl12_0, wl13_0, wl14_0, wl15_0, wl16_0, wl17_0, wl7g85_0, wl12g85_0, wl12g88_0, wL_0]
        refine AT_call rfl rfl (word111) fun v M1 hd1 h1 => ?_
        obtain ⟨hv, hM⟩ := h1; subst hv; subst hM
        simp (maxSteps := 1000000) only [go_sem, Q, wa0_0, wa1_0, wa2_0, wa3_0, wa4_0, wa5_0, wa6_0, wa7_0, wa8_0, wa9_0, wa10_0, wa88_12_0, wa88_15_0, wa88_16_0, wa88_17_0, wa85_7_0, wa85_8_0, wa85_9_0, wa85_13_0, wa85_14_0, wl0_0, wl1_0, wl2_0, wl3_0, wl4_0, wl5_0, wl6_0, wl7_0, wl8_0, wl9_0, wl10_0, wl11_0, wl12_0, wl13_0, wl14_0, wl15_0, wl16_0, wl17_0, wl7g85_0, wl12g85_0, wl12g88_0, wL_0]
        refine AT_call rfl rfl (word111) fun v M1 hd1 h1 => ?_
        obtain ⟨hv, hM⟩ := h1; subst hv; subst hM
        simp (maxSteps := 1000000) only [go_sem, Q, wa0_0, wa1_0, wa2_0, wa3_0, wa4_0, wa5_0, wa6_0, wa7_0, wa8_0, wa9_0, wa10_0, wa88_12_0, wa88_15_0, wa88_16_0, wa88_17_0, wa85_7_0, wa85_8_0, wa85_9_0, wa85_13_0, wa85_14_0, wl0_0, wl1_0, wl2_0, wl3_0, wl4_0, wl5_0, wl6_0, wl7_0, wl8_0, wl9_0, wl10_0, wl11_0, wl12_0, wl13_0, wl14_0, wl15_0, wl16_0, wl17_0, wl7g85_0, wl12g85_0, wl12g88_0, wL_0]
        refine AT_call rfl rfl (long112) fun v M1 hd1 h1 => ?_
        obtain ⟨hv, hM⟩ := h1; subst hv; subst hM
        simp (maxSteps := 1000000) only [go_sem, Q, wa0_0, wa1_0, wa2_0, wa3_0, wa4_0, wa5_0, wa6_0, wa7_0, wa8_0, wa9_0, wa10_0, wa88_12_0, wa88_15_0, wa88_16_0, wa88_17_0, wa85_7_0, wa85_8_0, wa85_9_0, wa85_13_0, wa85_14_0, wl0_0, wl1_0, wl2_0, wl3_0, wl4_0, wl5_0, wl6_0, wl7_0, wl8_0, wl9_0, wl10_0, wl11_0, wl12_0, wl13_0, wl14_0, wl15_0, wl16_0, wl17_0, wl7g85_0, wl12g85_0, wl12g88_0, wL_0]
        refine W_ret ⟨.inr rfl, _, rfl, rfl, ?_, rfl⟩
        rw [show a.may = true by unfold TellR.may; simp only [QH, ht, hcd, hall, Q, List.any_cons, Bool.or_false, Bool.false_or, Bool.or_true, Bool.true_or, Bool.and_true, Bool.true_and, Bool.false_and, Bool.and_false, Bool.not_true, Bool.not_false]]; rfl
theorem number145 {n : Int} {size : Nat} (hs : size ≤ 8) : AC Try.prog 145 [.int .i64 n, .int .i64 size] ⟨H, S⟩ (NewO H S (le (u64 n) size)) := by
  refine AC_of_WE Try.func145 rfl ?_
  simp only [Try.ntmps145, List.length_cons, List.length_nil, List.replicate, List.cons_append, List.nil_append, mem_enter]
  (repeat refine W_seq ?_); refine W_regionT [] ?_
  simp only [go_sem]
  (repeat refine W_seq ?_); refine W_regionT [] ?_
  simp only [go_sem, ti3, ti23, u64_wrap.1]
  refine AT_call rfl rfl (numB u64_wrap.2 hs) fun v M1 hd1 h1 => ?_
  obtain ⟨G, rfl, u1, b1, l1⟩ := h1
  simp only [go_sem]
  exact W_ret ⟨.inr rfl, _, rfl, OH.lev0' b1, _, rfl, u1, b1, l1⟩
theorem byte22 {n : Int} : buildSliceA Try.prog 22 true 1 [(0, .int .u8 n)] ⟨H, S⟩ = some (.sl ⟨0, H.length, 0⟩ 1 (some 1), ⟨H ++ [.row ⟨5, 1, [.int .u8 n], false, false⟩], S⟩) := one_cell ti22 rfl ti5 rfl rfl rfl rfl rfl
theorem qid146 {q : QidR} : AC Try.prog 146 [.agg q.cells] ⟨H, S⟩ (NewO H S q.bytes) := by
  refine AC_of_WE Try.func146 rfl ?_
  simp only [Try.ntmps146, List.length_cons, List.length_nil, List.replicate, List.cons_append, List.nil_append, mem_enter]
  (repeat refine W_seq ?_); refine W_regionT [] ?_
  simp only [go_sem, yboxL (qcells_st q), List.nil_append, List.cons_append, List.length_nil, List.length_cons, Nat.zero_add, Nat.reduceAdd]
  (repeat refine W_seq ?_); refine W_regionT [4] ?_
  simp only [go_sem, byte22]
  (repeat refine W_seq ?_); refine W_regionT [] ?_
  simp only [go_sem, ya0_0, ya1_0, ya2_0, yl0_0, yl1_0, yl2_0, yL_0]
  (repeat refine W_seq ?_)
  refine W_cond_if rfl (fun hb => ?_) (fun hb => ?_)
  · (repeat refine W_seq ?_); refine W_regionT [7] ?_
    simp only [go_sem, byte22]
    have b0 : BO ((H ++ [Block.row ⟨5, 1, [.int .u8 0], false, false⟩]) ++ [Block.row ⟨5, 1, [.int .u8 128], false, false⟩]) (.sl ⟨0, ((H ++ [Block.row ⟨5, 1, [.int .u8 0], false, false⟩])).length, 0⟩ 1 (some 1)) (le 128 1) := .inr ⟨((H ++ [Block.row ⟨5, 1, [.int .u8 0], false, false⟩])).length, some 1, false, rfl, .inr rfl, List.getElem?_concat_length .., rfl⟩
    obtain ⟨ib, hib⟩ : ∃ ib, ib = ((H ++ [Block.row ⟨5, 1, [.int .u8 0], false, false⟩])).length := ⟨_, rfl⟩
    rw [← hib] at b0
    have hlb : H.length ≤ ib := by rw [hib]; simp
    have ub : UpdH no H ((H ++ [Block.row ⟨5, 1, [.int .u8 0], false, false⟩]) ++ [Block.row ⟨5, 1, [.int .u8 128], false, false⟩]) := UpdH.push.then UpdH.push (fun _ _ h => h)
    rw [← hib]
    generalize (H ++ [Block.row ⟨5, 1, [.int .u8 0], false, false⟩]) ++ [Block.row ⟨5, 1, [.int .u8 128], false, false⟩] = G0 at b0 ub ⊢
    (repeat refine W_seq ?_); refine W_regionT [7, 4, 12] ?_
    simp only [go_sem, ya0_0, ya1_0, ya2_0, yl0_0, yl1_0, yl2_0, yL_0]
    refine AT_call rfl rfl (number145 (size := 4) (by decide)) fun v M1 hd1 h1 => ?_
    rw [leU32] at h1
    obtain ⟨G1, rfl, u1, b1, l1⟩ := h1
    obtain ⟨v2, G2, ha2, b2, u2, l2⟩ := (b0.new u1).append (S := [Block.row ⟨85, 3, QidR.cells q, false, false⟩] :: S) b1.bh (by simp only [le_length]; omega)
    simp only [go_sem, ha2]
    (repeat refine W_seq ?_); refine W_regionT [17] ?_
    simp only [go_sem, ya0_0, ya1_0, ya2_0, yl0_0, yl1_0, yl2_0, yL_0]
    refine AT_call rfl rfl (number145 (size := 8) (by decide)) fun v M1 hd1 h1 => ?_
    obtain ⟨G3, rfl, u3, b3, l3⟩ := h1
    obtain ⟨v4, G4, ha4, b4, u4, l4⟩ := (b2.new u3).append (S := [Block.row ⟨85, 3, QidR.cells q, false, false⟩] :: S) b3.bh (by simp only [List.length_append, le_length]; omega)
    simp only [go_sem, ha4]
    rw [show q.bytes = le 128 1 ++ le (u32 q.ver) 4 ++ le (u64 q.path) 8 from by unfold QidR.bytes; rw [hb]; rfl]
    exact W_ret ⟨.inr rfl, _, rfl, OH.lev0' b4, _, rfl, (((ub.then u1 (fun _ _ h => h)).then u2 (fun k hk h => by have h' : ib = k := h; omega)).then u3 (fun _ _ h => h)).then u4 (fun k hk h => (l2 k h).elim (fun h => by have h' : ib = k := h; omega) (fun h => by have := ub.l; have := u1.l; omega)), b4, fun k hk => (l4 k hk).elim (fun h => (l2 k h).elim (fun h => by have h' : ib = k := h; omega) (fun h => by have := ub.l; have := u1.l; omega)) (fun h => by have := ub.l; have := u1.l; have := u2.l; have := u3.l; omega)⟩
  · have b0 : BO (H ++ [Block.row ⟨5, 1, [.int .u8 0], false, false⟩]) (.sl ⟨0, (H).length, 0⟩ 1 (some 1)) (le 0 1) := .inr ⟨(H).length, some 1, false, rfl, .inr rfl, List.getElem?_concat_length .., rfl⟩
    obtain ⟨ib, hib⟩ : ∃ ib, ib = (H).length := ⟨_, rfl⟩
    rw [← hib] at b0
    have hlb : H.length ≤ ib := by rw [hib]; simp
    have ub : UpdH no H (H ++ [Block.row ⟨5, 1, [.int .u8 0], false, false⟩]) := UpdH.push
    rw [← hib]
    generalize H ++ [Block.row ⟨5, 1, [.int .u8 0], false, false⟩] = G0 at b0 ub ⊢
    refine W_skip ?_
    simp only [go_sem]
    (repeat refine W_seq ?_); refine W_regionT [7, 4, 12] ?_
    simp only [go_sem, ya0_0, ya1_0, ya2_0, yl0_0, yl1_0, yl2_0, yL_0]
    refine AT_call rfl rfl (number145 (size := 4) (by decide)) fun v M1 hd1 h1 => ?_
    rw [leU32] at h1
    obtain ⟨G1, rfl, u1, b1, l1⟩ := h1
    obtain ⟨v2, G2, ha2, b2, u2, l2⟩ := (b0.new u1).append (S := [Block.row ⟨85, 3, QidR.cells q, false, false⟩] :: S) b1.bh (by simp only [le_length]; omega)
    simp only [go_sem, ha2]
    (repeat refine W_seq ?_); refine W_regionT [17] ?_
    simp only [go_sem, ya0_0, ya1_0, ya2_0, yl0_0, yl1_0, yl2_0, yL_0]
    refine AT_call rfl rfl (number145 (size := 8) (by decide)) fun v M1 hd1 h1 => ?_
    obtain ⟨G3, rfl, u3, b3, l3⟩ := h1
    obtain ⟨v4, G4, ha4, b4, u4, l4⟩ := (b2.new u3).append (S := [Block.row ⟨85, 3, QidR.cells q, false, false⟩] :: S) b3.bh (by simp only [List.length_append, le_length]; omega)
    simp only [go_sem, ha4]
    rw [show q.bytes = le 0 1 ++ le (u32 q.ver) 4 ++ le (u64 q.path) 8 from by unfold QidR.bytes; rw [hb]; rfl]
    exact W_ret ⟨.inr rfl, _, rfl, OH.lev0' b4, _, rfl, (((ub.then u1 (fun _ _ h => h)).then u2 (fun k hk h => by have h' : ib = k := h; omega)).then u3 (fun _ _ h => h)).then u4 (fun k hk h => (l2 k h).elim (fun h => by have h' : ib = k := h; omega) (fun h => by have := ub.l; have := u1.l; omega)), b4, fun k hk => (l4 k hk).elim (fun h => (l2 k h).elim (fun h => by have h' : ib = k := h; omega) (fun h => by have := ub.l; have := u1.l; omega)) (fun h => by have := ub.l; have := u1.l; have := u2.l; have := u3.l; omega)⟩
theorem tfield120 {a : TellR} {vn vd : AV} (f : UInt8) (hn : QL H vn a.qids) (hd : BH H vd a.data) (fit : a.Fit) : AC Try.prog 120 [.agg (a.cells vn vd), .int .u8 f.toNat] ⟨H, S⟩ (NewO H S (a.fieldB f)) := by
  refine AC_of_WE Try.func120 rfl ?_
  simp only [Try.ntmps120, List.length_cons, List.length_nil, List.replicate, List.cons_append, List.nil_append, mem_enter]
  have c1 := tcells_st a hn.one.1 hd.one.1
  have fn := fit.n
  have fs := fit.s
  have fd := fit.d
  have fl := fit.l
  (repeat refine W_seq ?_); refine W_regionT [] ?_
  simp only [go_sem, wboxL c1, List.nil_append, List.cons_append, List.length_nil, List.length_cons, Nat.zero_add, Nat.reduceAdd]
  (repeat refine W_seq ?_); refine W_regionT [] ?_
  simp only [go_sem]
  (repeat refine W_seq ?_)
  refine W_block ?_
  (repeat refine W_seq ?_); refine W_regionT [] ?_
  simp only [go_sem]
  (repeat refine W_seq ?_)
  refine W_cond_if rfl (fun hb => ?_) (fun hb => ?_)
  · have hk : f = 122 := by simp only [decide_eq_true_eq] at hb; exact UInt8.toNat_inj.1 (by rw [show (122 : UInt8).toNat = 122 from rfl]; omega)
    (repeat refine W_seq ?_); refine W_regionT [] ?_
    simp only [go_sem, wa3_0, wl3_0]
    refine AT_call rfl rfl (number145 (size := 4) (by decide)) fun v M1 hd1 h1 => ?_
    obtain ⟨G1, rfl, u1, b1, l1⟩ := h1
    rw [leU32] at b1
    simp only [go_sem]
    rw [show a.fieldB f = le (u32 a.msize) 4 from by unfold TellR.fieldB; rw [if_pos hk]]
    exact W_ret ⟨.inr rfl, _, rfl, OH.lev0' b1, _, rfl, u1, b1, l1⟩
  · have n122 : ¬ f = 122 := by intro h; subst h; revert hb; decide
    (repeat refine W_seq ?_); refine W_regionT [] ?_
    simp only [go_sem]
    (repeat refine W_seq ?_)
    refine W_cond_if rfl (fun hb => ?_) (fun hb => ?_)
    · have hk : f = 110 := by simp only [decide_eq_true_eq] at hb; exact UInt8.toNat_inj.1 (by rw [show (110 : UInt8).toNat = 110 from rfl]; omega)
      (repeat refine W_seq ?_); refine W_regionT [] ?_
      simp only [go_sem, wa6_0, wl6_0]
      refine AT_call rfl rfl (rtextB (s := a.name) (by omega)) fun v M1 hd1 h1 => ?_
      obtain ⟨G1, rfl, u1, b1, l1⟩ := h1
      simp only [go_sem]
      rw [show a.fieldB f = le a.name.length 2 ++ a.name from by unfold TellR.fieldB; rw [if_neg n122, if_pos hk]]
      exact W_ret ⟨.inr rfl, _, rfl, OH.lev0' b1, _, rfl, u1, b1, l1⟩
    · have n110 : ¬ f = 110 := by intro h; subst h; revert hb; decide
      (repeat refine W_seq ?_); refine W_regionT [] ?_
      simp only [go_sem]
      (repeat refine W_seq ?_)
      refine W_cond_if rfl (fun hb => ?_) (fun hb => ?_)
      · have hk : f = 113 := by simp only [decide_eq_true_eq] at hb; exact UInt8.toNat_inj.1 (by rw [show (113 : UInt8).toNat = 113 from rfl]; omega)
        (repeat refine W_seq ?_); refine W_regionT [] ?_
        simp only [go_sem, wa7_0, wl7g85_0]
        refine AT_call rfl rfl (qid146) fun v M1 hd1 h1 => ?_
        obtain ⟨G1, rfl, u1, b1, l1⟩ := h1
        simp only [go_sem]
        rw [show a.fieldB f = a.q.bytes from by unfold TellR.fieldB; rw [if_neg n122, if_neg n110, if_pos hk]]
        exact W_ret ⟨.inr rfl, _, rfl, OH.lev0' b1, _, rfl, u1, b1, l1⟩
      · have n113 : ¬ f = 113 := by intro h; subst h; revert hb; decide
        (repeat refine W_seq ?_); refine W_regionT [] ?_
        simp only [go_sem]
        (repeat refine W_seq ?_)
        refine W_cond_if rfl (fun hb => ?_) (fun hb => ?_)
        · have hk : f = 101 := by simp only [decide_eq_true_eq] at hb; exact UInt8.toNat_inj.1 (by rw [show (101 : UInt8).toNat = 101 from rfl]; omega)
          (repeat refine W_seq ?_); refine W_regionT [] ?_
          simp only [go_sem, wa2_0, wl2_0]
          refine AT_call rfl rfl (number145 (size := 2) (by decide)) fun v M1 hd1 h1 => ?_
          obtain ⟨G1, rfl, u1, b1, l1⟩ := h1
          rw [leU16] at b1
          simp only [go_sem]
          rw [show a.fieldB f = le (u16 a.code) 2 from by unfold TellR.fieldB; rw [if_neg n122, if_neg n110, if_neg n113, if_pos hk]]
          exact W_ret ⟨.inr rfl, _, rfl, OH.lev0' b1, _, rfl, u1, b1, l1⟩
        · have n101 : ¬ f = 101 := by intro h; subst h; revert hb; decide
          (repeat refine W_seq ?_); refine W_regionT [] ?_
          simp only [go_sem]
          (repeat refine W_seq ?_)
          refine W_cond_if rfl (fun hb => ?_) (fun hb => ?_)
          · have hk : f = 105 := by simp only [decide_eq_true_eq] at hb; exact UInt8.toNat_inj.1 (by rw [show (105 : UInt8).toNat = 105 from rfl]; omega)
            (repeat refine W_seq ?_); refine W_regionT [] ?_
            simp only [go_sem, wa4_0, wl4_0]
            refine AT_call rfl rfl (number145 (size := 4) (by decide)) fun v M1 hd1 h1 => ?_
            obtain ⟨G1, rfl, u1, b1, l1⟩ := h1
            rw [leU32] at b1
            simp only [go_sem]
            rw [show a.fieldB f = le (u32 a.iounit) 4 from by unfold TellR.fieldB; rw [if_neg n122, if_neg n110, if_neg n113, if_neg n101, if_pos hk]]
            exact W_ret ⟨.inr rfl, _, rfl, OH.lev0' b1, _, rfl, u1, b1, l1⟩
          · have n105 : ¬ f = 105 := by intro h; subst h; revert hb; decide
            (repeat refine W_seq ?_); refine W_regionT [] ?_
            simp only [go_sem]
            (repeat refine W_seq ?_)
            refine W_cond_if rfl (fun hb => ?_) (fun hb => ?_)
            · have hk : f = 100 := by simp only [decide_eq_true_eq] at hb; exact UInt8.toNat_inj.1 (by rw [show (100 : UInt8).toNat = 100 from rfl]; omega)
              (repeat refine W_seq ?_); refine W_regionT [] ?_
              simp only [go_sem, wa9_0, wl11_0]
              refine AT_call rfl rfl (rdataB hd (by omega)) fun v M1 hd1 h1 => ?_
              obtain ⟨G1, rfl, u1, b1, l1⟩ := h1
              simp only [go_sem]
              rw [show a.fieldB f = le a.data.length 4 ++ a.data from by unfold TellR.fieldB; rw [if_neg n122, if_neg n110, if_neg n113, if_neg n101, if_neg n105, if_pos hk]]
              exact W_ret ⟨.inr rfl, _, rfl, OH.lev0' b1, _, rfl, u1, b1, l1⟩
            · have n100 : ¬ f = 100 := by intro h; subst h; revert hb; decide
              (repeat refine W_seq ?_); refine W_regionT [] ?_
              simp only [go_sem]
              (repeat refine W_seq ?_)
              refine W_cond_if rfl (fun hb => ?_) (fun hb => ?_)
              · have hk : f = 99 := by simp only [decide_eq_true_eq] at hb; exact UInt8.toNat_inj.1 (by rw [show (99 : UInt8).toNat = 99 from rfl]; omega)
                (repeat refine W_seq ?_); refine W_regionT [] ?_
                simp only [go_sem, wa5_0, wl5_0]
                refine AT_call rfl rfl (number145 (size := 4) (by decide)) fun v M1 hd1 h1 => ?_
                obtain ⟨G1, rfl, u1, b1, l1⟩ := h1
                rw [leU32] at b1
                simp only [go_sem]
                rw [show a.fieldB f = le (u32 a.count) 4 from by unfold TellR.fieldB; rw [if_neg n122, if_neg n110, if_neg n113, if_neg n101, if_neg n105, if_neg n100, if_pos hk]]
                exact W_ret ⟨.inr rfl, _, rfl, OH.lev0' b1, _, rfl, u1, b1, l1⟩
              · have n99 : ¬ f = 99 := by intro h; subst h; revert hb; decide
                (repeat refine W_seq ?_); refine W_regionT [] ?_
                simp only [go_sem]
                (repeat refine W_seq ?_)
                refine W_cond_if rfl (fun hb => ?_) (fun hb => ?_)
                · have hk : f = 115 := by simp only [decide_eq_true_eq] at hb; exact UInt8.toNat_inj.1 (by rw [show (115 : UInt8).toNat = 115 from rfl]; omega)
                  (repeat refine W_seq ?_); refine W_regionT [] ?_
                  simp only [go_sem, wa10_0, wa88_12_0, wl12g85_0]
                  refine AT_call rfl rfl (qid146) fun v M1 hd1 h1 => ?_
                  obtain ⟨G1, rfl, u1, b1, l1⟩ := h1
                  simp only [go_sem]
                  (repeat refine W_seq ?_); refine W_regionT [55] ?_
                  simp only [go_sem, wa10_0, wa88_15_0, wl15_0]
                  refine AT_call rfl rfl (number145 (size := 4) (by decide)) fun v M1 hd1 h1 => ?_
                  rw [leU32] at h1
                  obtain ⟨G2, rfl, u2, b2, l2⟩ := h1
                  obtain ⟨v3, G3, ha3, b3, u3, l3⟩ := (b1.new u2).append (S := [Block.row ⟨90, 18, TellR.cells a vn vd, false, false⟩] :: S) b2.bh (by simp only [List.length_append, le_length, qid_len]; omega)
                  simp only [go_sem, ha3]
                  (repeat refine W_seq ?_); refine W_regionT [61] ?_
                  simp only [go_sem, wa10_0, wa88_16_0, wl16_0]
                  refine AT_call rfl rfl (number145 (size := 8) (by decide)) fun v M1 hd1 h1 => ?_
                  obtain ⟨G4, rfl, u4, b4, l4⟩ := h1
                  obtain ⟨v5, G5, ha5, b5, u5, l5⟩ := (b3.new u4).append (S := [Block.row ⟨90, 18, TellR.cells a vn vd, false, false⟩] :: S) b4.bh (by simp only [List.length_append, le_length, qid_len]; omega)
                  simp only [go_sem, ha5]
                  (repeat refine W_seq ?_); refine W_regionT [67] ?_
                  simp only [go_sem, wa10_0, wa88_17_0, wl17_0]
                  refine AT_call rfl rfl (rtextB (s := a.s.name) (by omega)) fun v M1 hd1 h1 => ?_
                  obtain ⟨G6, rfl, u6, b6, l6⟩ := h1
                  obtain ⟨v7, G7, ha7, b7, u7, l7⟩ := (b5.new u6).append (S := [Block.row ⟨90, 18, TellR.cells a vn vd, false, false⟩] :: S) b6.bh (by simp only [List.length_append, le_length, qid_len]; omega)
                  simp only [go_sem, ha7]
                  rw [show a.fieldB f = a.s.q.bytes ++ le (u32 a.s.mode) 4 ++ le (u64 a.s.size) 8 ++ (le a.s.name.length 2 ++ a.s.name) from by unfold TellR.fieldB; rw [if_neg n122, if_neg n110, if_neg n113, if_neg n101, if_neg n105, if_neg n100, if_neg n99, if_pos hk]]
                  have q1 := u1.l
                  have q2 := u2.l
                  have q3 := u3.l
                  have q4 := u4.l
                  have q5 := u5.l
                  have q6 := u6.l
                  have lo3 : ∀ k, v3.loc k → H.length ≤ k := fun k hk => (l3 k hk).elim (l1 k) (fun h => by omega)
                  have lo5 : ∀ k, v5.loc k → H.length ≤ k := fun k hk => (l5 k hk).elim (lo3 k) (fun h => by omega)
                  exact W_ret ⟨.inr rfl, _, rfl, OH.lev0' b7, _, rfl, (((((u1.then u2 (fun _ _ h => h)).then u3 (fun k hk h => by have := l1 k h; omega)).then u4 (fun _ _ h => h)).then u5 (fun k hk h => by have := lo3 k h; omega)).then u6 (fun _ _ h => h)).then u7 (fun k hk h => by have := lo5 k h; omega), b7, fun k hk => (l7 k hk).elim (lo5 k) (fun h => by omega)⟩
                · have n115 : ¬ f = 115 := by intro h; subst h; revert hb; decide
                  (repeat refine W_seq ?_); refine W_regionT [] ?_
                  simp only [go_sem]
                  (repeat refine W_seq ?_)
                  refine W_cond_if rfl (fun hb => ?_) (fun hb => ?_)
                  · have hk : f = 108 := by simp only [decide_eq_true_eq] at hb; exact UInt8.toNat_inj.1 (by rw [show (108 : UInt8).toNat = 108 from rfl]; omega)
                    (repeat refine W_seq ?_); refine W_regionT [] ?_
                    simp only [go_sem, hn.len, wa8_0, wl10_0]
                    refine AT_call rfl rfl (number145 (size := 2) (by decide)) fun v M1 hd1 h1 => ?_
                    obtain ⟨G1, rfl, u1, b1, l1⟩ := h1
                    rw [leU16] at b1
                    simp only [go_sem]
                    (repeat refine W_seq ?_); refine W_regionT [] ?_
                    simp only [go_sem]
                    (repeat refine W_seq ?_)
                    refine W_block (W_loop (L_inv (fun j env M' => ∃ (x1 x3 x4 x5 x8 x9 x10 x11 x12 x13 x14 x15 x16 x17 x18 x19 x20 x21 x22 x23 x24 x25 x26 x27 x28 x29 x30 x31 x32 x33 x34 x35 x36 x37 x38 x39 x40 x41 x42 x43 x44 x45 x46 x47 x48 x49 x50 x51 x52 x53 x54 x55 x56 x57 x58 x59 x60 x61 x62 x63 x64 x65 x66 x67 x68 x69 x70 x71 x72 x73 x74 x75 x76 x77 x78 x79 x80 x81 x82 x83 x84 x85 x86 x87 x88 x89 : AV) (vb : AV) (i : Nat) (G : List Block), env = [.agg (a.cells vn vd), x1, .ptr ⟨S.length + 1, 0, 0⟩, x3, x4, x5, vb, .int .i64 i, x8, x9, x10, x11, x12, x13, x14, x15, x16, x17, x18, x19, x20, x21, x22, x23, x24, x25, x26, x27, x28, x29, x30, x31, x32, x33, x34, x35, x36, x37, x38, x39, x40, x41, x42, x43, x44, x45, x46, x47, x48, x49, x50, x51, x52, x53, x54, x55, x56, x57, x58, x59, x60, x61, x62, x63, x64, x65, x66, x67, x68, x69, x70, x71, x72, x73, x74, x75, x76, x77, x78, x79, x80, x81, x82, x83, x84, x85, x86, x87, x88, x89] ∧ i + j = a.qids.length ∧ M' = ⟨G, [Block.row ⟨90, 18, TellR.cells a vn vd, false, false⟩] :: S⟩ ∧ UpdH no H G ∧ BO G vb (le (u16 a.qids.length) 2 ++ (a.qids.take i).flatMap QidR.bytes) ∧ ∀ k, vb.loc k → H.length ≤ k) (fun j env M2 => ?_) (a.qids.length) ?_))
                    case refine_2 => exact ⟨_, _, _, _, _, _, _, _, _, _, _, _, _, _, _, _, _, _, _, _, _, _, _, _, _, _, _, _, _, _, _, _, _, _, _, _, _, _, _, _, _, _, _, _, _, _, _, _, _, _, _, _, _, _, _, _, _, _, _, _, _, _, _, _, _, _, _, _, _, _, _, _, _, _, _, _, _, _, _, _, _, _, _, _, _, _, _, 0, _, rfl, by omega, rfl, u1, by simpa using b1, l1⟩
                    refine exE fun x1 => exE fun x3 => exE fun x4 => exE fun x5 => exE fun x8 => exE fun x9 => exE fun x10 => exE fun x11 => exE fun x12 => exE fun x13 => exE fun x14 => exE fun x15 => exE fun x16 => exE fun x17 => exE fun x18 => exE fun x19 => exE fun x20 => exE fun x21 => exE fun x22 => exE fun x23 => exE fun x24 => exE fun x25 => exE fun x26 => exE fun x27 => exE fun x28 => exE fun x29 => exE fun x30 => exE fun x31 => exE fun x32 => exE fun x33 => exE fun x34 => exE fun x35 => exE fun x36 => exE fun x37 => exE fun x38 => exE fun x39 => exE fun x40 => exE fun x41 => exE fun x42 => exE fun x43 => exE fun x44 => exE fun x45 => exE fun x46 => exE fun x47 => exE fun x48 => exE fun x49 => exE fun x50 => exE fun x51 => exE fun x52 => exE fun x53 => exE fun x54 => exE fun x55 => exE fun x56 => exE fun x57 => exE fun x58 => exE fun x59 => exE fun x60 => exE fun x61 => exE fun x62 => exE fun x63 => exE fun x64 => exE fun x65 => exE fun x66 => exE fun x67 => exE fun x68 => exE fun x69 => exE fun x70 => exE fun x71 => exE fun x72 => exE fun x73 => exE fun x74 => exE fun x75 => exE fun x76 => exE fun x77 => exE fun x78 => exE fun x79 => exE fun x80 => exE fun x81 => exE fun x82 => exE fun x83 => exE fun x84 => exE fun x85 => exE fun x86 => exE fun x87 => exE fun x88 => exE fun x89 => ?_
                    rintro ⟨vb, i, G, rfl, hij, rfl, uG, bb, hvb⟩
                    (repeat refine W_seq ?_); refine W_regionT [] ?_
                    simp only [go_sem, wa8_0, wl10_0, (hn.new uG).len]
                    (repeat refine W_seq ?_)
                    refine W_cond_if rfl (fun hb => ?_) (fun hb => ?_)
                    · have hi : i < a.qids.length := by simpa using hb
                      refine W_skip ?_
                      simp only [go_sem]
                      (repeat refine W_seq ?_)
                      refine W_block ?_
                      have a86 := at86 (S := [Block.row ⟨90, 18, TellR.cells a vn vd, false, false⟩] :: S) (hn.new uG) hi
                      have hql := qids_len (a.qids.take i)
                      rw [List.length_take] at hql
                      (repeat refine W_seq ?_); refine W_regionT [88] ?_
                      simp only [go_sem, wa8_0, wl10_0, a86.1, a86.2]
                      refine AT_call rfl rfl (qid146) fun v M1 hd1 h1 => ?_
                      obtain ⟨G2, rfl, u2, b2, l2⟩ := h1
                      obtain ⟨v3, G3, hap, b3, u3, l3⟩ := (bb.new u2).append (S := [Block.row ⟨90, 18, TellR.cells a vn vd, false, false⟩] :: S) b2.bh (by simp only [List.length_append, le_length, qid_len]; omega)
                      rw [List.append_assoc, ← qflat_succ hi] at b3
                      simp only [go_sem, hap]
                      (repeat refine W_seq ?_); refine W_regionT [] ?_
                      simp only [go_sem, show (i : Int) + 1 = ((i + 1 : Nat) : Int) from rfl, wrap_i64 (n := ((i + 1 : Nat) : Int)) (by omega) (by omega)]
                      refine ⟨j - 1, by omega, _, _, _, _, _, _, _, _, _, _, _, _, _, _, _, _, _, _, _, _, _, _, _, _, _, _, _, _, _, _, _, _, _, _, _, _, _, _, _, _, _, _, _, _, _, _, _, _, _, _, _, _, _, _, _, _, _, _, _, _, _, _, _, _, _, _, _, _, _, _, _, _, _, _, _, _, _, _, _, _, _, _, _, _, _, _, v3, i + 1, G3, rfl, by omega, rfl, (uG.then u2 (fun _ _ h => h)).then u3 (fun k hk h => by have := hvb k h; omega), b3, fun k hk => (l3 k hk).elim (hvb k) (fun h => by have := uG.l; have := u2.l; omega)⟩
                    · have hi : a.qids.length = i := by simp at hb; omega
                      subst hi
                      (repeat refine W_seq ?_)
                      refine W_exit ?_
                      simp only [go_sem]
                      (repeat refine W_seq ?_); refine W_regionT [] ?_
                      simp only [go_sem]
                      rw [List.take_length] at bb
                      rw [show a.fieldB f = qidsB a.qids from by unfold TellR.fieldB; rw [if_neg n122, if_neg n110, if_neg n113, if_neg n101, if_neg n105, if_neg n100, if_neg n99, if_neg n115, if_pos hk]]
                      exact W_ret ⟨.inr rfl, _, rfl, OH.lev0' bb, _, rfl, uG, bb, hvb⟩
                  · have n108 : ¬ f = 108 := by intro h; subst h; revert hb; decide
                    refine W_skip ?_
                    simp only [go_sem]
                    (repeat refine W_seq ?_); refine W_regionT [] ?_
                    simp only [go_sem]
                    rw [show a.fieldB f = [] from by unfold TellR.fieldB; rw [if_neg n122, if_neg n110, if_neg n113, if_neg n101, if_neg n105, if_neg n100, if_neg n99, if_neg n115, if_neg n108]]
                    exact W_ret ⟨.inr rfl, _, rfl, rfl, H, rfl, UpdH.refl, BO.nil, fun k h => h.elim⟩
theorem tbytes66 {a : TellR} {vn vd : AV} (hn : QL H vn a.qids) (hd : BH H vd a.data) (hm : a.may = true) : AC Try.prog 66 [.agg (a.cells vn vd)] ⟨H, S⟩ (NewO H S a.pack) := by
  refine AC_of_WE Try.func66 rfl ?_
  simp only [Try.ntmps66, List.length_cons, List.length_nil, List.replicate, List.cons_append, List.nil_append, mem_enter]
  have c1 := tcells_st a hn.one.1 hd.one.1
  have fit := TellR.fit hm
  have hkn : tknown a.ty = true := by
    have h := hm
    unfold TellR.may at h
    simp only [Bool.and_eq_true] at h
    exact h.1.1.1.1.1.1.1.1.1.1.1.1.1
  have hks := tkinds hkn
  have htg : 0 ≤ a.tag ∧ a.tag < 65536 := by
    have h := hm
    unfold TellR.may inB at h
    simp only [Bool.and_eq_true, decide_eq_true_eq] at h
    omega
  have hty : 0 ≤ a.ty ∧ a.ty < 256 := by omega
  have hsh := tfields_short (k := a.ty)
  have hbo := tbodyF hkn
  (repeat refine W_seq ?_); refine W_regionT [] ?_
  simp only [go_sem, wboxL c1, List.nil_append, List.cons_append, List.length_nil, List.length_cons, Nat.zero_add, Nat.reduceAdd]
  (repeat refine W_seq ?_); refine W_regionT [] ?_
  simp only [go_sem, wa0_0, wa1_0, wa2_0, wa3_0, wa4_0, wa5_0, wa6_0, wa7_0, wa8_0, wa9_0, wa10_0, wa88_12_0, wa88_15_0, wa88_16_0, wa88_17_0, wa85_7_0, wa85_8_0, wa85_9_0, wa85_13_0, wa85_14_0, wl0_0, wl1_0, wl2_0, wl3_0, wl4_0, wl5_0, wl6_0, wl7_0, wl8_0, wl9_0, wl10_0, wl11_0, wl12_0, wl13_0, wl14_0, wl15_0, wl16_0, wl17_0, wl7g85_0, wl12g85_0, wl12g88_0, wL_0]
  refine AT_call rfl rfl (tfields109) fun v M1 hd1 h1 => ?_
  obtain ⟨hv, hM⟩ := h1; subst hv; subst hM
  generalize tfieldsOf a.ty = l at hsh hbo ⊢
  simp only [go_sem]
  (repeat refine W_seq ?_); refine W_regionT [] ?_
  simp only [go_sem]
  (repeat refine W_seq ?_); refine W_regionT [] ?_
  simp only [go_sem]
  (repeat refine W_seq ?_)
  refine W_block (W_loop (L_inv (fun j env M' => ∃ (x2 x6 x7 x8 x9 x10 x11 x12 x13 x14 x15 x16 x17 x18 x19 x20 x21 x22 x23 x24 x25 x26 x27 : AV) (vb : AV) (i : Nat) (G : List Block), env = [.agg (a.cells vn vd), .ptr ⟨S.length + 1, 0, 0⟩, x2, .str l, vb, .int .i64 i, x6, x7, x8, x9, x10, x11, x12, x13, x14, x15, x16, x17, x18, x19, x20, x21, x22, x23, x24, x25, x26, x27] ∧ i + j = l.length ∧ M' = ⟨G, [Block.row ⟨90, 18, TellR.cells a vn vd, false, false⟩] :: S⟩ ∧ UpdH no H G ∧ BO G vb ((l.take i).flatMap a.fieldB) ∧ ∀ k, vb.loc k → H.length ≤ k) (fun j env M2 => ?_) (l.length) ?_))
  case refine_2 => exact ⟨_, _, _, _, _, _, _, _, _, _, _, _, _, _, _, _, _, _, _, _, _, _, _, .nilsl, 0, H, rfl, by omega, rfl, UpdH.refl, BO.nil, fun k h => h.elim⟩
  refine exE fun x2 => exE fun x6 => exE fun x7 => exE fun x8 => exE fun x9 => exE fun x10 => exE fun x11 => exE fun x12 => exE fun x13 => exE fun x14 => exE fun x15 => exE fun x16 => exE fun x17 => exE fun x18 => exE fun x19 => exE fun x20 => exE fun x21 => exE fun x22 => exE fun x23 => exE fun x24 => exE fun x25 => exE fun x26 => exE fun x27 => ?_
  rintro ⟨vb, i, G, rfl, hij, rfl, uG, bb, hvb⟩
  (repeat refine W_seq ?_); refine W_regionT [] ?_
  simp only [go_sem, len9]
  (repeat refine W_seq ?_)
  refine W_cond_if rfl (fun hb => ?_) (fun hb => ?_)
  · have hi : i < l.length := by simpa using hb
    refine W_skip ?_
    simp only [go_sem]
    (repeat refine W_seq ?_)
    refine W_block ?_
    have a5 := str_at hi
    have fl1 := tflat_len fit (l.take i)
    have fl2 := tfieldB_len fit (f := l[i])
    rw [List.length_take] at fl1
    (repeat refine W_seq ?_); refine W_regionC [21] [5, 6] [0, 1, 2, 3, 4, 5, 6, 7] [0, 0, 0, 0, 12, 30, 63, 127] mixedM (by kernel_rfl) (by kernel_rfl) (by kernel_rfl) (by kernel_rfl) ?_
    simp only [listed, go_sem, wL_0, a5]
    refine AT_call rfl rfl (tfield120 l[i] (hn.new uG) (hd.new uG) fit) fun v M1 hd1 h1 => ?_
    obtain ⟨G2, rfl, u2, b2, l2⟩ := h1
    obtain ⟨v3, G3, hap, b3, u3, l3⟩ := (bb.new u2).append (S := [Block.row ⟨90, 18, TellR.cells a vn vd, false, false⟩] :: S) b2.bh (by omega)
    rw [← tflat_succ hi] at b3
    simp only [go_sem, hap]
    (repeat refine W_seq ?_); refine W_regionT [] ?_
    simp only [go_sem, show (i : Int) + 1 = ((i + 1 : Nat) : Int) from rfl, wrap_i64 (n := ((i + 1 : Nat) : Int)) (by omega) (by omega)]
    refine ⟨j - 1, by omega, _, _, _, _, _, _, _, _, _, _, _, _, _, _, _, _, _, _, _, _, _, _, _, v3, i + 1, G3, rfl, by omega, rfl, (uG.then u2 (fun _ _ h => h)).then u3 (fun k hk h => by have := hvb k h; omega), b3, fun k hk => (l3 k hk).elim (hvb k) (fun h => by have := uG.l; have := u2.l; omega)⟩
  · have hi : l.length = i := by simp at hb; omega
    subst hi
    (repeat refine W_seq ?_)
    refine W_exit ?_
    simp only [go_sem]
    (repeat refine W_seq ?_); refine W_regionT [] ?_
    simp only [go_sem, wa0_0, wa1_0, wa2_0, wa3_0, wa4_0, wa5_0, wa6_0, wa7_0, wa8_0, wa9_0, wa10_0, wa88_12_0, wa88_15_0, wa88_16_0, wa88_17_0, wa85_7_0, wa85_8_0, wa85_9_0, wa85_13_0, wa85_14_0, wl0_0, wl1_0, wl2_0, wl3_0, wl4_0, wl5_0, wl6_0, wl7_0, wl8_0, wl9_0, wl10_0, wl11_0, wl12_0, wl13_0, wl14_0, wl15_0, wl16_0, wl17_0, wl7g85_0, wl12g85_0, wl12g88_0, wL_0]
    refine AT_call rfl rfl (rpackB bb.bh (by have := tflat_len fit l; rw [List.take_length]; omega) hty htg) fun v M1 hd1 h1 => ?_
    rw [List.take_length, hbo] at h1
    obtain ⟨G4, rfl, u4, b4, l4⟩ := h1
    rw [show le (7 + a.body.length) 4 ++ le (u8 a.ty) 1 ++ le (u16 a.tag) 2 ++ a.body = a.pack from rfl] at b4
    simp only [go_sem]
    exact W_ret ⟨.inr rfl, _, rfl, OH.lev0' b4, _, rfl, uG.then u4 (fun _ _ h => h), b4, fun k hk => Nat.le_trans uG.l (l4 k hk)⟩
theorem tellMay {a : TellR} {vn vd : AV} {w n : Int} {s : List UInt8} (hn : QL H vn a.qids) (hd : BH H vd a.data) (g : a.Rng) (hw : -9223372036854775808 ≤ w ∧ w < 9223372036854775808) (hnn : -9223372036854775808 ≤ n ∧ n < 9223372036854775808) : AC Try.prog 11 [.agg (a.cells vn vd), .int .i64 w, .int .i64 n, .str s] ⟨H, S⟩ (fun v M' => v = .bool true) := by
  refine AC_of_WE Try.func11 rfl ?_
  simp only [Try.ntmps11, List.length_cons, List.length_nil, List.replicate, List.cons_append, List.nil_append, mem_enter]
  have c1 := tcells_st a hn.one.1 hd.one.1
  have gf : a.few.Rng := ⟨g.ty, g.tag, g.code, g.msize, g.iounit, g.count, g.q_ver, g.q_path, g.s_q_ver, g.s_q_path, g.s_mode, g.s_size, fun q hq => g.qids q (List.mem_of_mem_take hq)⟩
  (repeat refine W_seq ?_); refine W_regionT [] ?_
  simp only [go_sem, wboxL c1, List.nil_append, List.cons_append, List.length_nil, List.length_cons, Nat.zero_add, Nat.reduceAdd]
  (repeat refine W_seq ?_); refine W_regionT [] ?_
  simp only [go_sem, wa0_0, wa1_0, wa2_0, wa3_0, wa4_0, wa5_0, wa6_0, wa7_0, wa8_0, wa9_0, wa10_0, wa88_12_0, wa88_15_0, wa88_16_0, wa88_17_0, wa85_7_0, wa85_8_0, wa85_9_0, wa85_13_0, wa85_14_0, wl0_0, wl1_0, wl2_0, wl3_0, wl4_0, wl5_0, wl6_0, wl7_0, wl8_0, wl9_0, wl10_0, wl11_0, wl12_0, wl13_0, wl14_0, wl15_0, wl16_0, wl17_0, wl7g85_0, wl12g85_0, wl12g88_0, wL_0]
  refine AT_call rfl rfl (tfew60 hn hd) fun v M1 hd1 h1 => ?_
  obtain ⟨G1, rfl, u1, fn, fd, rfl, p1, q1, _⟩ := h1
  have c2 := tcells_st a.few (OHQ p1).1 q1.one.1
  simp only [go_sem, wallocL, wS_1 c2, List.nil_append, List.cons_append, List.length_nil, List.length_cons, Nat.zero_add, Nat.reduceAdd]
  (repeat refine W_seq ?_); refine W_regionD [25] [2, 7, 8] [0, 1, 3, 4, 5, 6, 2, 7, 8, 9] [0, 0, 2, 0, 0, 0, 0, 126, 255, 511] mixedM (by kernel_rfl) (by kernel_rfl) (by kernel_rfl) ?_
  simp only [listed, go_sem]
  refine AD_read (v := .agg (a.few.cells fn fd)) (fun M' => M'.get (S.length + 1) 1 = some (Block.row ⟨90, 18, TellR.cells a.few fn fd, false, false⟩)) rfl rfl (fun M' h => by show pureV (loadA Try.prog 90 (.ptr ⟨S.length + 1, 1, 0⟩) M') M' = _; rw [wL h]; rfl) (gt1) ?_
  simp only [go_sem]
  refine AD_read (v := .agg (a.few.cells fn fd)) (fun M' => M'.get (S.length + 1) 1 = some (Block.row ⟨90, 18, TellR.cells a.few fn fd, false, false⟩)) rfl rfl (fun M' h => by show pureV (loadA Try.prog 90 (.ptr ⟨S.length + 1, 1, 0⟩) M') M' = _; rw [wL h]; rfl) (gt1) ?_
  simp only [go_sem]
  refine AD_read (v := .agg (a.few.cells fn fd)) (fun M' => M'.get (S.length + 1) 1 = some (Block.row ⟨90, 18, TellR.cells a.few fn fd, false, false⟩)) rfl rfl (fun M' h => by show pureV (loadA Try.prog 90 (.ptr ⟨S.length + 1, 1, 0⟩) M') M' = _; rw [wL h]; rfl) (gt1) ?_
  simp only [go_sem]
  refine AD_call rfl rfl rfl (tgood61 (oh_ql p1) q1 gf) fun v M1 hd1 h1 => ?_
  obtain ⟨G2, rfl, u2, on2, od2, rfl, p2, q2, _⟩ := h1
  refine ⟨⟨fun _ => gt1, fun _ => gt1, fun _ => gt1, trivial⟩, ?_⟩
  simp only [go_sem]
  refine AD_call rfl rfl rfl (todd62 (oh_ql (p1.new u2)) (q1.new u2) gf hw) fun v M1 hd1 h1 => ?_
  obtain ⟨G3, rfl, u3, on3, od3, rfl, p3, q3, _⟩ := h1
  refine ⟨⟨fun _ => gt1, fun _ => gt1, fun _ => gt1, trivial⟩, ?_⟩
  simp only [go_sem]
  refine AD_loud (v := .sl ⟨0, G3.length, 0⟩ 3 (some 3)) (M' := ⟨G3 ++ [Block.row ⟨90, 18, [((a.few, fn, fd) : Rep), (a.few.good, on2, od2), (a.few.odd w n s, on3, od3)].flatMap Rep.cells, false, false⟩], [Block.row ⟨90, 18, TellR.cells a vn vd, false, false⟩, Block.row ⟨90, 18, TellR.cells a.few fn fd, false, false⟩] :: S⟩) rfl (three93 (a := (a.few, fn, fd)) (b := (a.few.good, on2, od2)) (c := (a.few.odd w n s, on3, od3)) (tcells_st _ (OHQ p1).1 q1.one.1) (tcells_st _ (OHQ p2).1 q2.one.1) (tcells_st _ (OHQ p3).1 q3.one.1)) ⟨fun ha => absurd (ha.symm.trans (show ancB _ _ _ _ = true by kernel_rfl)) (by decide), fun ha => absurd (ha.symm.trans (show ancB _ _ _ _ = true by kernel_rfl)) (by decide), fun ha => absurd (ha.symm.trans (show ancB _ _ _ _ = true by kernel_rfl)) (by decide), trivial⟩ ?_
  simp only [go_sem]
  have hq : PH (G3 ++ [Block.row ⟨90, 18, [((a.few, fn, fd) : Rep), (a.few.good, on2, od2), (a.few.odd w n s, on3, od3)].flatMap Rep.cells, false, false⟩]) (.sl ⟨0, G3.length, 0⟩ 3 (some 3)) [((a.few, fn, fd) : Rep), (a.few.good, on2, od2), (a.few.odd w n s, on3, od3)] := by
    refine ⟨⟨.inr ⟨G3.length, 0, some 3, _, rfl, List.getElem?_concat_length .., rfl, ?_, ?_⟩, rfl⟩, fun t ht => ?_⟩
    · rw [List.drop_zero, List.take_of_length_le (by rw [flat_len_eq (f := Rep.cells) (m := 18) (fun _ => rfl)]; exact Nat.le_refl _)]
    · exact flat_len_eq (f := Rep.cells) (m := 18) (fun _ => rfl) _
    · simp only [List.mem_cons, List.not_mem_nil, or_false] at ht
      rcases ht with rfl | rfl | rfl
      · exact ⟨oh_ql (((p1.new u2).new u3).new UpdH.push), ((q1.new u2).new u3).new UpdH.push⟩
      · exact ⟨oh_ql ((p2.new u3).new UpdH.push), (q2.new u3).new UpdH.push⟩
      · exact ⟨oh_ql (p3.new UpdH.push), q3.new UpdH.push⟩
  have hlen : ∀ t ∈ [((a.few, fn, fd) : Rep), (a.few.good, on2, od2), (a.few.odd w n s, on3, od3)], t.1.qids.length < 900000 := by
    intro t ht
    simp only [List.mem_cons, List.not_mem_nil, or_false] at ht
    rcases ht with rfl | rfl | rfl
    · show (a.qids.take 10).length < 900000
      simp; omega
    · have := tgood_short (a := a.few)
      show a.few.good.qids.length < _; omega
    · have := todd_short (a := a.few) (w := w) (n := n) (s := s)
      show (a.few.odd w n s).qids.length < _; omega
  have hal : [((a.few, fn, fd) : Rep), (a.few.good, on2, od2), (a.few.odd w n s, on3, od3)].length = 3 := rfl
  generalize [((a.few, fn, fd) : Rep), (a.few.good, on2, od2), (a.few.odd w n s, on3, od3)] = all at hq hlen hal ⊢
  generalize (AV.sl ⟨0, G3.length, 0⟩ 3 (some 3)) = v at hq ⊢
  generalize G3 ++ [Block.row ⟨90, 18, all.flatMap Rep.cells, false, false⟩] = G at hq ⊢
  (repeat refine W_seq ?_); refine W_regionT [] ?_
  simp only [go_sem]
  (repeat refine W_seq ?_)
  refine W_block (W_loop (L_inv (fun j env M' => ∃ (x0 x1 x2 x3 x4 x5 x6 x7 x8 x9 x12 x13 x14 x15 x16 x17 x18 x19 x20 x21 x22 x23 x24 x25 x26 x27 x28 x29 x30 x31 x32 x33 x34 x35 x36 x37 x38 x39 x40 x41 x42 x43 x44 x45 x46 x47 x48 x49 x50 x51 x52 x53 x54 x55 x56 x57 x58 x59 x60 x61 x62 x63 x64 x65 x66 x67 x68 x69 x70 x71 x72 x73 x74 x75 x76 x77 x78 x79 x80 x81 : AV) (i : Nat) (G : List Block), env = [x0, x1, x2, x3, x4, x5, x6, x7, x8, x9, v, .int .i64 i, x12, x13, x14, x15, x16, x17, x18, x19, x20, x21, x22, x23, x24, x25, x26, x27, x28, x29, x30, x31, x32, x33, x34, x35, x36, x37, x38, x39, x40, x41, x42, x43, x44, x45, x46, x47, x48, x49, x50, x51, x52, x53, x54, x55, x56, x57, x58, x59, x60, x61, x62, x63, x64, x65, x66, x67, x68, x69, x70, x71, x72, x73, x74, x75, x76, x77, x78, x79, x80, x81] ∧ i + j = 3 ∧ M' = ⟨G, [Block.row ⟨90, 18, TellR.cells a vn vd, false, false⟩, Block.row ⟨90, 18, TellR.cells a.few fn fd, false, false⟩] :: S⟩ ∧ PH G v all) (fun j env M2 => ?_) (3) ?_))
  case refine_2 => exact ⟨_, _, _, _, _, _, _, _, _, _, _, _, _, _, _, _, _, _, _, _, _, _, _, _, _, _, _, _, _, _, _, _, _, _, _, _, _, _, _, _, _, _, _, _, _, _, _, _, _, _, _, _, _, _, _, _, _, _, _, _, _, _, _, _, _, _, _, _, _, _, _, _, _, _, _, _, _, _, _, _, 0, _, rfl, rfl, rfl, hq⟩
  refine exE fun x0 => exE fun x1 => exE fun x2 => exE fun x3 => exE fun x4 => exE fun x5 => exE fun x6 => exE fun x7 => exE fun x8 => exE fun x9 => exE fun x12 => exE fun x13 => exE fun x14 => exE fun x15 => exE fun x16 => exE fun x17 => exE fun x18 => exE fun x19 => exE fun x20 => exE fun x21 => exE fun x22 => exE fun x23 => exE fun x24 => exE fun x25 => exE fun x26 => exE fun x27 => exE fun x28 => exE fun x29 => exE fun x30 => exE fun x31 => exE fun x32 => exE fun x33 => exE fun x34 => exE fun x35 => exE fun x36 => exE fun x37 => exE fun x38 => exE fun x39 => exE fun x40 => exE fun x41 => exE fun x42 => exE fun x43 => exE fun x44 => exE fun x45 => exE fun x46 => exE fun x47 => exE fun x48 => exE fun x49 => exE fun x50 => exE fun x51 => exE fun x52 => exE fun x53 => exE fun x54 => exE fun x55 => exE fun x56 => exE fun x57 => exE fun x58 => exE fun x59 => exE fun x60 => exE fun x61 => exE fun x62 => exE fun x63 => exE fun x64 => exE fun x65 => exE fun x66 => exE fun x67 => exE fun x68 => exE fun x69 => exE fun x70 => exE fun x71 => exE fun x72 => exE fun x73 => exE fun x74 => exE fun x75 => exE fun x76 => exE fun x77 => exE fun x78 => exE fun x79 => exE fun x80 => exE fun x81 => ?_
  rintro ⟨i, G, rfl, hij, rfl, hq⟩
  (repeat refine W_seq ?_); refine W_regionT [] ?_
  simp only [go_sem]
  (repeat refine W_seq ?_)
  refine W_cond_if rfl (fun hb => ?_) (fun hb => ?_)
  · have hi3 : i < 3 := by simp at hb; omega
    refine W_skip ?_
    simp only [go_sem]
    (repeat refine W_seq ?_)
    refine W_block ?_
    have hi : i < all.length := by omega
    have hl9 := hlen _ (List.getElem_mem hi)
    obtain ⟨tn, td⟩ := hq.one hi
    have a75 := at93 (S := [Block.row ⟨90, 18, TellR.cells a vn vd, false, false⟩, Block.row ⟨90, 18, TellR.cells a.few fn fd, false, false⟩] :: S) hq hi
    (repeat refine W_seq ?_); refine W_regionT [] ?_
    simp only [go_sem, a75.1, a75.2]
    refine AT_call rfl rfl (tmayR63 tn td (by omega)) fun v M1 hd1 h1 => ?_
    obtain ⟨hv, hM⟩ := h1; subst hv; subst hM
    simp only [go_sem]
    (repeat refine W_seq ?_); refine W_regionT [] ?_
    simp only [go_sem, a75.1, a75.2]
    refine AT_call rfl rfl (twrite64 (hq.get hi) hl9 (fun _ => puts)) fun v M1 hd1 h1 => ?_
    obtain ⟨G7, vb, rfl, rfl, u7, b7, l7⟩ := h1
    have hq7 := hq.new u7
    have a75' := at93 (S := [Block.row ⟨90, 18, TellR.cells a vn vd, false, false⟩, Block.row ⟨90, 18, TellR.cells a.few fn fd, false, false⟩] :: S) hq7 hi
    simp only [go_sem]
    rcases (show all[i].1.may = true ∨ all[i].1.may = false by cases all[i].1.may <;> simp) with hm | hm
    · rw [hm] at b7
      simp only [if_true] at b7
      (repeat refine W_seq ?_); refine W_regionT [] ?_
      simp only [go_sem, a75'.1, a75'.2, hm, ne_bool ti4 rfl, beq_self_eq_true, Bool.not_true, if_true, Bool.false_eq_true, if_false]
      refine AT_call rfl rfl (may65 (hq7.get hi) hl9) fun v M1 hd1 h1 => ?_
      obtain ⟨hv, G8, rfl, u8⟩ := h1; subst hv
      have hq8 := hq7.new u8
      simp only [go_sem, hm, ne_bool ti4 rfl, beq_self_eq_true, Bool.not_true, Bool.not_false, if_true, Bool.false_eq_true, if_false, (b7.new u8).len]
      (repeat refine W_seq ?_)
      refine W_cond (b := false) rfl ?_
      simp only [Bool.false_eq_true, if_false]
      refine W_skip ?_
      simp only [go_sem]
      (repeat refine W_seq ?_); refine W_regionD [] [8] [0, 1, 2, 3, 4, 5, 6, 7, 8, 9, 10, 11] [0, 1, 3, 7, 3, 3, 51, 115, 243, 499, 1023, 2047] mixedM (by kernel_rfl) (by kernel_rfl) (by kernel_rfl) ?_
      simp only [listed, go_sem, hm, beq_self_eq_true, Bool.not_true]
      refine AD_read (v := .str all[i].1.pack) (fun M' => convA Try.prog 22 9 false vb M' = some (.str all[i].1.pack, M')) rfl rfl (fun M' h => h) ((b7.new u8).text) ?_
      simp only [go_sem, hm, beq_self_eq_true, Bool.not_true]
      refine AD_read (v := idm 18 v i) (fun M' => indexAddrA Try.prog 93 v (.int .i64 i) M' = some (idm 18 v i) ∧ loadA Try.prog 90 (idm 18 v i) M' = some (.agg (all[i].1.cells all[i].2.1 all[i].2.2))) rfl rfl (fun M' h => by show pureV (indexAddrA Try.prog 93 v (.int .i64 i) M') M' = _; rw [h.1]; rfl) (at93 hq8 hi) ?_
      simp only [go_sem, hm, beq_self_eq_true, Bool.not_true]
      refine AD_read (v := .agg (all[i].1.cells all[i].2.1 all[i].2.2)) (fun M' => indexAddrA Try.prog 93 v (.int .i64 i) M' = some (idm 18 v i) ∧ loadA Try.prog 90 (idm 18 v i) M' = some (.agg (all[i].1.cells all[i].2.1 all[i].2.2))) rfl rfl (fun M' h => by show pureV (loadA Try.prog 90 (idm 18 v i) M') M' = _; rw [h.2]; rfl) (at93 hq8 hi) ?_
      simp only [go_sem, hm, beq_self_eq_true, Bool.not_true]
      refine AD_call rfl rfl rfl (tbytes66 (hq8.one hi).1 (hq8.one hi).2 hm) fun v M1 hd1 h1 => ?_
      obtain ⟨G9, rfl, u9, b9, l9⟩ := h1
      have hq9 := hq8.new u9
      rename AV => vB
      refine ⟨⟨fun _ => at93 hq9 hi, fun _ => at93 hq9 hi, fun _ => ((b7.new u8).new u9).text, trivial⟩, ?_⟩
      simp only [go_sem]
      refine AD_read (v := .str all[i].1.pack) (fun M' => convA Try.prog 22 9 false vB M' = some (.str all[i].1.pack, M')) rfl rfl (fun M' h => h) (b9.bh.text) ?_
      simp only [go_sem, hm, beq_self_eq_true, Bool.not_true]
      (repeat refine W_seq ?_)
      refine W_cond (b := false) rfl ?_
      simp only [Bool.false_eq_true, if_false]
      refine W_skip ?_
      simp only [go_sem]
      (repeat refine W_seq ?_); refine W_regionT [] ?_
      simp only [go_sem, show (i : Int) + 1 = ((i + 1 : Nat) : Int) from rfl, wrap_i64 (n := ((i + 1 : Nat) : Int)) (by omega) (by omega)]
      refine ⟨j - 1, by omega, _, _, _, _, _, _, _, _, _, _, _, _, _, _, _, _, _, _, _, _, _, _, _, _, _, _, _, _, _, _, _, _, _, _, _, _, _, _, _, _, _, _, _, _, _, _, _, _, _, _, _, _, _, _, _, _, _, _, _, _, _, _, _, _, _, _, _, _, _, _, _, _, _, _, _, _, _, _, _, _, i + 1, _, rfl, by omega, rfl, hq9⟩
    · rw [hm] at b7
      simp only [Bool.false_eq_true, if_false] at b7
      (repeat refine W_seq ?_); refine W_regionT [] ?_
      simp only [go_sem, a75'.1, a75'.2, hm, ne_bool ti4 rfl, beq_self_eq_true, Bool.not_true, if_true, Bool.false_eq_true, if_false]
      refine AT_call rfl rfl (may65 (hq7.get hi) hl9) fun v M1 hd1 h1 => ?_
      obtain ⟨hv, G8, rfl, u8⟩ := h1; subst hv
      have hq8 := hq7.new u8
      simp only [go_sem, hm, ne_bool ti4 rfl, beq_self_eq_true, Bool.not_true, Bool.not_false, if_true, Bool.false_eq_true, if_false, (b7.new u8).len]
      (repeat refine W_seq ?_)
      refine W_cond (b := false) rfl ?_
      simp only [Bool.false_eq_true, if_false]
      refine W_skip ?_
      simp only [go_sem]
      (repeat refine W_seq ?_); refine W_regionD [] [8] [0, 1, 2, 3, 4, 5, 6, 7, 8, 9, 10, 11] [0, 1, 3, 7, 3, 3, 51, 115, 243, 499, 1023, 2047] mixedM (by kernel_rfl) (by kernel_rfl) (by kernel_rfl) ?_
      simp only [listed, go_sem, hm]
      (repeat refine W_seq ?_)
      refine W_cond (b := false) rfl ?_
      simp only [Bool.false_eq_true, if_false]
      refine W_skip ?_
      simp only [go_sem]
      (repeat refine W_seq ?_); refine W_regionT [] ?_
      simp only [go_sem, show (i : Int) + 1 = ((i + 1 : Nat) : Int) from rfl, wrap_i64 (n := ((i + 1 : Nat) : Int)) (by omega) (by omega)]
      refine ⟨j - 1, by omega, _, _, _, _, _, _, _, _, _, _, _, _, _, _, _, _, _, _, _, _, _, _, _, _, _, _, _, _, _, _, _, _, _, _, _, _, _, _, _, _, _, _, _, _, _, _, _, _, _, _, _, _, _, _, _, _, _, _, _, _, _, _, _, _, _, _, _, _, _, _, _, _, _, _, _, _, _, _, _, _, i + 1, _, rfl, by omega, rfl, hq8⟩
  · (repeat refine W_seq ?_)
    refine W_exit ?_
    simp only [go_sem]
    (repeat refine W_seq ?_); refine W_regionT [] ?_
    simp only [go_sem]
    refine AT_call rfl rfl (lives67) fun v M1 hd1 h1 => ?_
    obtain ⟨hv, hM⟩ := h1; subst hv; subst hM
    simp only [go_sem]
    exact W_ret ⟨.inr rfl, _, rfl, rfl, rfl⟩
end
end Go.Proofs.Ytlpcbfndjffpfaa
