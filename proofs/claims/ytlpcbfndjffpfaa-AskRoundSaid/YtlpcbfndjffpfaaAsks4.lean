/- The walk of ask.Write, lives, AskBounds. -/
import Derived.Test.YtlpcbfndjffpfaaAsks3
set_option maxRecDepth 100000
set_option maxHeartbeats 4000000
set_option linter.unusedSimpArgs false
set_option linter.unusedVariables false
namespace Go.Proofs.Ytlpcbfndjffpfaa
open Go.Abs
section
variable {H H' : List Block} {S : List (List Block)} {M' : Mem}
theorem AskR.body_len {a : AskR} (fit : a.Fit) (hk0 : a.ty = 100 ∨ a.ty = 104 ∨ a.ty = 108 ∨ a.ty = 110 ∨ a.ty = 112 ∨ a.ty = 114 ∨ a.ty = 116 ∨ a.ty = 118 ∨ a.ty = 120 ∨ a.ty = 122 ∨ a.ty = 124 ∨ a.ty = 126) : a.body.length < 100000 := by
  have fn := fit.n
  have fd := fit.d
  have fl := fit.l
  have ft := texts_len fit.s
  rcases hk0 with h | h | h | h | h | h | h | h | h | h | h | h
  · rw [body100 h]; simp only [List.length_append, le_length, List.length_nil]; omega
  · rw [body104 h]; simp only [List.length_append, le_length, List.length_nil]; omega
  · rw [body108 h]; simp only [List.length_append, le_length, List.length_nil]; omega
  · rw [body110 h]; simp only [List.length_append, le_length, List.length_nil]; omega
  · rw [body112 h]; simp only [List.length_append, le_length, List.length_nil]; omega
  · rw [body114 h]; simp only [List.length_append, le_length, List.length_nil]; omega
  · rw [body116 h]; simp only [List.length_append, le_length, List.length_nil]; omega
  · rw [body118 h]; simp only [List.length_append, le_length, List.length_nil]; omega
  · rw [body120 h]; simp only [List.length_append, le_length, List.length_nil]; omega
  · rw [body122 h]; simp only [List.length_append, le_length, List.length_nil]; omega
  · rw [body124 h]; simp only [List.length_append, le_length, List.length_nil]; omega
  · rw [body126 h]; simp only [List.length_append, le_length, List.length_nil]; omega
theorem AskV.new {x : AV} {a : AskR} (h : AskV H x a) (u : UpdH no H H') : AskV H' x a := by obtain ⟨vn, vd, rfl, h1, h2⟩ := h; exact ⟨vn, vd, rfl, h1.new u, h2.new u⟩
theorem write54 {x : AV} {a : AskR} (hx : AskV H x a) (hl : a.names.length < 900000) : AC Try.prog 54 [x] ⟨H, S⟩ (fun v M' => ∃ H' vb, v = .tup [vb, .int .i64 (if a.may then 0 else 1)] ∧ M' = ⟨H', S⟩ ∧ UpdH no H H' ∧ BH H' vb (if a.may then a.pack else []) ∧ ∀ k, vb.loc k → H.length ≤ k) := by
  refine AC_of_WE Try.func54 rfl ?_
  simp only [Try.ntmps54, List.length_cons, List.length_nil, List.replicate, List.cons_append, List.nil_append, mem_enter]
  obtain ⟨vn, vd, rfl, hn, hd⟩ := hx
  have hx' : AskV H (.agg (a.cells vn vd)) a := ⟨vn, vd, rfl, hn, hd⟩
  have c11 := cells_st2 a hn.one.1 hd.one.1
  (repeat refine W_seq ?_); refine W_regionT [] ?_
  simp only [go_sem, kboxL c11, List.nil_append, List.cons_append, List.length_nil, List.length_cons, Nat.zero_add, Nat.reduceAdd]
  (repeat refine W_seq ?_); refine W_regionT [] ?_
  simp only [go_sem, ka0_0, ka1_0, ka2_0, ka3_0, ka4_0, ka5_0, ka6_0, ka7_0, ka8_0, ka9_0, ka10_0, ka11_0, ka12_0, ka13_0, kl0_0, kl1_0, kl2_0, kl3_0, kl4_0, kl5_0, kl6_0, kl7_0, kl8_0, kl9_0, kl10_0, kl11_0, kl12_0, kl13_0, kL_0]
  refine AT_call rfl rfl (may55 hx' hl) fun v M1 hd1 h1 => ?_
  obtain ⟨hv, H1, rfl, u1⟩ := h1; subst hv
  simp only [go_sem]
  (repeat refine W_seq ?_)
  refine W_cond_if rfl (fun hb => ?_) (fun hb => ?_)
  · have hm : a.may = false := by simpa using hb
    (repeat refine W_seq ?_); refine W_regionT [] ?_
    simp only [go_sem]
    refine W_ret ⟨.inr rfl, _, rfl, rfl, ?_⟩
    rw [hm]
    exact ⟨_, _, rfl, rfl, u1, BH.nil, fun k h => h.elim⟩
  · have hm : a.may = true := by simpa using hb
    refine W_skip ?_
    simp only [go_sem]
    have fit := AskR.fit hm
    (repeat refine W_seq ?_); refine W_regionD [] [7, 8] [0, 1, 2, 3, 4, 5, 6, 7, 8, 9, 10] [0, 1, 3, 0, 8, 24, 0, 64, 255, 511, 1023] mixedM (by kernel_rfl) (by kernel_rfl) (by kernel_rfl) ?_
    simp only [listed, go_sem]
    refine AD_read (v := .ptr ⟨S.length + 1, 0, 0⟩) (fun M' => M'.get (S.length + 1) 0 = some (Block.row ⟨72, 14, AskR.cells a vn vd, false, false⟩)) rfl rfl (fun M' h => by show pureV (fieldAddrA Try.prog 72 (.ptr ⟨S.length + 1, 0, 0⟩) 0 M') M' = _; rw [ka0 h]; rfl) (gt0) ?_
    simp only [go_sem]
    refine AD_read (v := .int .i64 a.ty) (fun M' => M'.get (S.length + 1) 0 = some (Block.row ⟨72, 14, AskR.cells a vn vd, false, false⟩)) rfl rfl (fun M' h => by show pureV (loadA Try.prog 3 (.ptr ⟨S.length + 1, 0, 0⟩) M') M' = _; rw [kl0 h]; rfl) (gt0) ?_
    simp only [go_sem]
    refine AD_convI rfl rfl ti3 ti5 rfl ?_
    simp only [go_sem]
    refine AD_read (v := .ptr ⟨S.length + 1, 0, 1⟩) (fun M' => M'.get (S.length + 1) 0 = some (Block.row ⟨72, 14, AskR.cells a vn vd, false, false⟩)) rfl rfl (fun M' h => by show pureV (fieldAddrA Try.prog 72 (.ptr ⟨S.length + 1, 0, 0⟩) 1 M') M' = _; rw [ka1 h]; rfl) (gt0) ?_
    simp only [go_sem]
    refine AD_read (v := .int .i64 a.tag) (fun M' => M'.get (S.length + 1) 0 = some (Block.row ⟨72, 14, AskR.cells a vn vd, false, false⟩)) rfl rfl (fun M' h => by show pureV (loadA Try.prog 3 (.ptr ⟨S.length + 1, 0, 1⟩) M') M' = _; rw [kl1 h]; rfl) (gt0) ?_
    simp only [go_sem]
    refine AD_convI rfl rfl ti3 ti24 rfl ?_
    simp only [go_sem]
    refine AD_read (v := .agg (a.cells vn vd)) (fun M' => M'.get (S.length + 1) 0 = some (Block.row ⟨72, 14, AskR.cells a vn vd, false, false⟩)) rfl rfl (fun M' h => by show pureV (loadA Try.prog 72 (.ptr ⟨S.length + 1, 0, 0⟩) M') M' = _; rw [kL h]; rfl) (gt0) ?_
    simp only [go_sem]
    refine AD_call rfl rfl rfl (body95 (hx'.new u1) fit (AskR.known hm)) fun v M1 hd1 h1 => ?_
    obtain ⟨H2, rfl, u2, b2⟩ := h1
    refine ⟨⟨fun _ => gt0, fun _ => gt0, fun _ => gt0, fun _ => gt0, fun _ => gt0, trivial⟩, ?_⟩
    simp only [go_sem]
    refine AD_call rfl rfl rfl (packB b2 (by have := AskR.body_len fit (AskR.known hm); omega)) fun v M1 hd1 h1 => ?_
    obtain ⟨H3, rfl, u3, b3, l3⟩ := h1
    rw [show le (7 + a.body.length) 4 ++ le (u8 a.ty) 1 ++ le (u16 a.tag) 2 ++ a.body = a.pack from rfl] at b3
    refine ⟨⟨fun _ => gt0, fun _ => gt0, fun _ => gt0, fun _ => gt0, fun _ => gt0, trivial⟩, ?_⟩
    simp only [go_sem]
    refine W_ret ⟨.inr rfl, [v, .int .i64 0], rfl, ?_, ?_⟩
    · show lev0s [v, .int .i64 0] = true
      simp only [lev0s, AV.lev0, b3.lev0', Bool.and_true]
    rw [hm]
    exact ⟨_, _, rfl, rfl, (u1.then u2 (fun _ _ h => h)).then u3 (fun _ _ h => h), b3, fun k hk => Nat.le_trans u1.l (Nat.le_trans u2.l (l3 k hk))⟩
def ask120 : AskR := ⟨120, 1, 3, 0, 0, 0, 0, 0, 0, 0, [], [], 0, []⟩
theorem may120 : ask120.may = true := by decide
theorem pack120 : ask120.pack = [11, 0, 0, 0, 120, 1, 0, 3, 0, 0, 0] := by decide
theorem lives57'  : AC Try.prog 57 [] ⟨H, S⟩ (fun v M' => v = .bool true) := by
  refine AC_of_WE Try.func57 rfl ?_
  simp only [Try.ntmps57, List.length_cons, List.length_nil, List.replicate, List.cons_append, List.nil_append, mem_enter]
  (repeat refine W_seq ?_); refine W_regionT [] ?_
  simp only [go_sem]
  (repeat refine W_seq ?_); refine W_regionT [] ?_
  simp only [go_sem, bld3]
  refine AT_call rfl rfl (write54 (a := ask120) ⟨.nilsl, .nilsl, rfl, TH.nil, BH.nil⟩ (by decide)) fun v M1 hd1 h1 => ?_
  rw [may120, pack120] at h1
  obtain ⟨H1, vb, rfl, rfl, u1, b1, _⟩ := h1
  simp only [go_sem, if_true]
  (repeat refine W_seq ?_); refine W_regionT [] ?_
  simp only [go_sem, b1.text]
  exact W_ret ⟨.inr rfl, _, rfl, rfl, rfl⟩
theorem lives57 {M : Mem} : AC Try.prog 57 [] M (fun v M' => v = .bool true ∧ M' = M) :=
  (AC_closed rfl (lives57' (H := []) (S := [])) (fun v M' h => by rw [h]; rfl)).mono fun v M' h => ⟨h.1.choose_spec, h.2⟩
theorem make70 {n : Nat} (hn : n ≤ 2000) : ∃ v H', makeSliceA Try.prog 70 true (.int .i64 n) (.int .i64 n) ⟨H, S⟩ = some (v, ⟨H', S⟩) ∧ TH H' v (List.replicate n []) ∧ UpdH no H H' := by
  refine ⟨_, _, make_cells ti70 rfl ti9 rfl rfl rfl (by show n * 16 ≤ _; omega) (by omega), ?_, UpdH.push⟩
  refine .inr ⟨H.length, 0, some n, ⟨9, 1, List.replicate n (.str []), false, false⟩, ?_, by simp, rfl, ?_, ?_⟩
  · rw [List.length_replicate]
  · simp [List.map_replicate]
  · simp
theorem two70 {s t : List UInt8} : buildSliceA Try.prog 70 true 2 [(0, .str s), (1, .str t)] ⟨H, S⟩ = some (.sl ⟨0, H.length, 0⟩ 2 (some 2), ⟨H ++ [.row ⟨9, 1, [.str s, .str t], false, false⟩], S⟩) := by
  unfold buildSliceA
  simp only [ti70, ti9]
  have e1 : fillA (fun i => some (i * 1, 1)) (zeros (AV.str []).cells 2) [(0, .str s), (1, .str t)] = some [.str s, .str t] := rfl
  rw [if_pos ⟨by decide, rfl, rfl⟩, e1]
  simp only
  rw [if_pos ⟨by simp, by simp, by rfl⟩]
  rfl
def nameR (k : Int) (s : List UInt8) : AskR := ⟨k, 0, 0, 0, 0, 0, 0, 0, 0, 0, s, [], 0, []⟩
def namesR (k : Int) (l : List (List UInt8)) : AskR := ⟨k, 0, 0, 0, 0, 0, 0, 0, 0, 0, [], l, 0, []⟩
def dataR (k : Int) (d : List UInt8) : AskR := ⟨k, 0, 0, 0, 0, 0, 0, 0, 0, 0, [], [], 0, d⟩
theorem bldN {k : Int} {s : List UInt8} : buildA Try.prog 72 [(0, .int .i64 k), (10, .str s)] = some (.agg (AskR.cells (nameR k s) .nilsl .nilsl)) := by unfold buildA; simp only [ti72]; rfl
theorem bldL {k : Int} {v : AV} {l : List (List UInt8)} (h : TH H v l) : buildA Try.prog 72 [(0, .int .i64 k), (11, v)] = some (.agg (AskR.cells (namesR k l) v .nilsl)) := by
  rcases h with ⟨rfl, _⟩ | ⟨i, off, c, r, rfl, _⟩ <;> (unfold buildA; simp only [ti72]; rfl)
theorem bldD {k : Int} {v : AV} {d : List UInt8} (h : BH H v d) : buildA Try.prog 72 [(0, .int .i64 k), (13, v)] = some (.agg (AskR.cells (dataR k d) .nilsl v)) := by
  rcases h with ⟨rfl, _⟩ | ⟨i, off, c, r, rfl, _⟩ <;> (unfold buildA; simp only [ti72]; rfl)
theorem may104 {s : List UInt8} : (nameR 104 s).may = decide ((s.length : Int) ≤ 255) := by
  rw [Bool.eq_iff_iff]
  unfold AskR.may AskR.head
  rw [own104 (a := nameR 104 s) rfl, known104 (k := (nameR 104 s).ty) rfl]
  simp only [nameR, AskR.words, inB]
  simp
  omega
theorem may110 {l : List (List UInt8)} : (namesR 110 l).may = (!(l.any fun s => decide (255 < s.length)) && decide ((l.length : Int) ≤ 8)) := by
  rw [Bool.eq_iff_iff]
  unfold AskR.may AskR.head
  rw [own110 (a := namesR 110 l) rfl, known110 (k := (namesR 110 l).ty) rfl]
  simp only [namesR, AskR.words, inB]
  simp
  exact fun _ => ⟨of_decide_eq_true, decide_eq_true⟩
theorem may118 {d : List UInt8} : (dataR 118 d).may = decide ((d.length : Int) ≤ 1024) := by
  rw [Bool.eq_iff_iff]
  unfold AskR.may AskR.head
  rw [own118 (a := dataR 118 d) rfl, known118 (k := (dataR 118 d).ty) rfl]
  simp only [dataR, AskR.words, inB]
  simp
  exact ⟨of_decide_eq_true, decide_eq_true⟩
theorem may_n {t : Nat} : (nameR 104 (List.replicate t 0)).may = decide ((t : Int) ≤ 255) := by rw [may104, List.length_replicate]
theorem may_l {t : Nat} : (namesR 110 [[97], List.replicate t 0]).may = decide ((t : Int) ≤ 255) := by
  rw [may110, Bool.eq_iff_iff]
  simp
  omega
theorem may_d {t : Nat} : (dataR 118 (List.replicate t 0)).may = decide ((t : Int) ≤ 1024) := by rw [may118, List.length_replicate]
theorem may_w {t : Nat} : (namesR 110 (List.replicate t [])).may = decide ((t : Int) ≤ 8) := by
  rw [may110, List.length_replicate]
  have : ((List.replicate t ([] : List UInt8)).any fun s => decide (255 < s.length)) = false := by
    rw [List.any_eq_false]; intro s hs; rw [List.eq_of_mem_replicate hs]; decide
  rw [this]; rfl
theorem askBounds {n m k : Int} (hn : -9223372036854775808 ≤ n ∧ n < 9223372036854775808) (hm : -9223372036854775808 ≤ m ∧ m < 9223372036854775808) (hk : -9223372036854775808 ≤ k ∧ k < 9223372036854775808) : AC Try.prog 9 [.int .i64 n, .int .i64 m, .int .i64 k] ⟨H, S⟩ (fun v M' => v = .bool true) := by
  refine AC_of_WE Try.func9 rfl ?_
  simp only [Try.ntmps9, List.length_cons, List.length_nil, List.replicate, List.cons_append, List.nil_append, mem_enter]
  (repeat refine W_seq ?_); refine W_regionT [] ?_
  simp only [go_sem]
  (repeat refine W_seq ?_); refine W_regionT [] ?_
  simp only [go_sem]
  refine AT_call rfl rfl (aroundF hn.1 hn.2 (by decide)) fun v M1 hd1 h1 => ?_
  obtain ⟨hv, hM⟩ := h1
  have hrn := around_range (n := n) (k := 11) (by decide)
  generalize around n 11 = rn at hv hrn
  subst hv; subst hM
  obtain ⟨tn, htn⟩ : ∃ t : Nat, 250 + rn = t := ⟨(250 + rn).toNat, by omega⟩
  have en : IntKind.wrap .i64 (tn : Int) = (tn : Int) := wrap_i64 (by omega) (by omega)
  simp only [go_sem, en, htn]
  (repeat refine W_seq ?_); refine W_regionT [] ?_
  simp only [go_sem]
  refine AT_call rfl rfl (aroundF hm.1 hm.2 (by decide)) fun v M1 hd1 h1 => ?_
  obtain ⟨hv, hM⟩ := h1
  have hrm := around_range (n := m) (k := 11) (by decide)
  generalize around m 11 = rm at hv hrm
  subst hv; subst hM
  obtain ⟨tm, htm⟩ : ∃ t : Nat, 1020 + rm = t := ⟨(1020 + rm).toNat, by omega⟩
  have em : IntKind.wrap .i64 (tm : Int) = (tm : Int) := wrap_i64 (by omega) (by omega)
  simp only [go_sem, em, htm]
  (repeat refine W_seq ?_); refine W_regionT [] ?_
  simp only [go_sem]
  refine AT_call rfl rfl (aroundF hk.1 hk.2 (by decide)) fun v M1 hd1 h1 => ?_
  obtain ⟨hv, hM⟩ := h1
  have hrk := around_range (n := k) (k := 11) (by decide)
  generalize around k 11 = rk at hv hrk
  subst hv; subst hM
  obtain ⟨tk, htk⟩ : ∃ t : Nat, rk = t := ⟨(rk).toNat, by omega⟩
  have ek : IntKind.wrap .i64 (tk : Int) = (tk : Int) := wrap_i64 (by omega) (by omega)
  simp only [go_sem, ek, htk]
  obtain ⟨v4, H4, a4, b4, u4⟩ := make22 (H := H) (S := [] :: S) (n := tn) (by omega)
  (repeat refine W_seq ?_); refine W_regionT [24] ?_
  simp only [go_sem, a4, b4.text]
  (repeat refine W_seq ?_); refine W_regionT [] ?_
  simp only [go_sem, bldN]
  refine AT_call rfl rfl (may55 (a := nameR 104 (List.replicate tn 0)) ⟨.nilsl, .nilsl, rfl, TH.nil, BH.nil⟩ (by simp [nameR])) fun v M1 hd1 h1 => ?_
  obtain ⟨hv, H5, rfl, u5⟩ := h1; rw [may_n] at hv; subst hv
  simp only [go_sem]
  have t6 : TH (H5 ++ [.row ⟨9, 1, [.str [97], .str (List.replicate tn 0)], false, false⟩]) (.sl ⟨0, H5.length, 0⟩ 2 (some 2)) [[97], List.replicate tn 0] := .inr ⟨H5.length, 0, some 2, _, rfl, List.getElem?_concat_length .., rfl, rfl, rfl⟩
  have b6 := bldL (k := 110) t6
  (repeat refine W_seq ?_); refine W_regionT [30] ?_
  simp only [go_sem, two70, b6]
  refine AT_call rfl rfl (may55 (a := namesR 110 [[97], List.replicate tn 0]) ⟨_, .nilsl, rfl, t6, BH.nil⟩ (by simp [namesR])) fun v M1 hd1 h1 => ?_
  obtain ⟨hv, H6, rfl, u6⟩ := h1; rw [may_l] at hv; subst hv
  simp only [go_sem]
  obtain ⟨v7, H7', a7, b7, u7⟩ := make22 (H := H6) (S := [] :: S) (n := tm) (by omega)
  have d7 := bldD (k := 118) b7
  (repeat refine W_seq ?_); refine W_regionT [34] ?_
  simp only [go_sem, a7, d7]
  refine AT_call rfl rfl (may55 (a := dataR 118 (List.replicate tm 0)) ⟨.nilsl, _, rfl, TH.nil, b7⟩ (by simp [dataR])) fun v M1 hd1 h1 => ?_
  obtain ⟨hv, H7, rfl, u7⟩ := h1; rw [may_d] at hv; subst hv
  simp only [go_sem]
  obtain ⟨v8, H8', a8, b8, u8⟩ := make70 (H := H7) (S := [] :: S) (n := tk) (by omega)
  have d8 := bldL (k := 110) b8
  (repeat refine W_seq ?_); refine W_regionT [38] ?_
  simp only [go_sem, a8, d8]
  refine AT_call rfl rfl (may55 (a := namesR 110 (List.replicate tk [])) ⟨_, .nilsl, rfl, b8, BH.nil⟩ (by simp [namesR]; omega)) fun v M1 hd1 h1 => ?_
  obtain ⟨hv, H8, rfl, u8⟩ := h1; rw [may_w] at hv; subst hv
  simp only [go_sem]
  (repeat refine W_seq ?_); refine W_regionT [] ?_
  simp only [go_sem]
  refine AT_call rfl rfl (lives57) fun v M1 hd1 h1 => ?_
  obtain ⟨hv, hM⟩ := h1; subst hv; subst hM
  simp only [go_sem]
  exact W_ret ⟨.inr rfl, _, rfl, rfl, rfl⟩
end
end Go.Proofs.Ytlpcbfndjffpfaa
