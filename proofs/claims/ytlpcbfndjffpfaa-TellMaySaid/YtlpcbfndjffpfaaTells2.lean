/- The walk of tell's own, May, body, Write, Error, and lives. -/
import Derived.Test.YtlpcbfndjffpfaaTells
set_option maxRecDepth 100000
set_option maxHeartbeats 4000000
set_option linter.unusedSimpArgs false
set_option linter.unusedVariables false
namespace Go.Proofs.Ytlpcbfndjffpfaa
open Go.Abs
def tknown (n : Int) : Bool := !decide (tkind n = 0)
theorem tk0 {n : Int} : decide (tkind n = 0) = !tknown n := by unfold tknown; rw [Bool.not_not]
def TellR.may (a : TellR) : Bool := tknown a.ty && decide (a = a.own) && inB a.tag 0 65535 && inB a.code 0 65535 && !((a.q :: a.s.q :: a.qids).any fun q => !q.ok) && decide ((a.qids.length : Int) ≤ 8) && decide ((a.data.length : Int) ≤ 1024) && decide ((a.name.length : Int) ≤ 255) && decide ((a.s.name.length : Int) ≤ 255) && inB a.msize 0 4294967295 && inB a.iounit 0 4294967295 && inB a.count 0 4294967295 && inB a.s.mode 0 4294967295 && inB a.s.size 0 4611686018427387904
def QidR.bytes (q : QidR) : List UInt8 := le (if q.dir then 128 else 0) 1 ++ le (u32 q.ver) 4 ++ le (u64 q.path) 8
def qidsB (l : List QidR) : List UInt8 := le (u16 l.length) 2 ++ l.flatMap QidR.bytes
def TellR.body (a : TellR) : List UInt8 := if tkind a.ty = 2 then le (u32 a.msize) 4 ++ le a.name.length 2 ++ a.name else if tkind a.ty = 3 then a.q.bytes else if tkind a.ty = 4 then le (u16 a.code) 2 else if tkind a.ty = 5 then qidsB a.qids else if tkind a.ty = 6 then a.q.bytes ++ le (u32 a.iounit) 4 else if tkind a.ty = 7 then le a.data.length 4 ++ a.data else if tkind a.ty = 8 then le (u32 a.count) 4 else if tkind a.ty = 9 then a.s.q.bytes ++ le (u32 a.s.mode) 4 ++ le (u64 a.s.size) 8 ++ le a.s.name.length 2 ++ a.s.name else []
def TellR.pack (a : TellR) : List UInt8 := le (7 + a.body.length) 4 ++ le (u8 a.ty) 1 ++ le (u16 a.tag) 2 ++ a.body
structure TellR.Fit (a : TellR) : Prop where
  n : a.name.length ≤ 255
  s : a.s.name.length ≤ 255
  l : a.qids.length ≤ 8
  d : a.data.length ≤ 1024
theorem TellR.fit {a : TellR} (h : a.may = true) : a.Fit := by
  unfold TellR.may at h
  simp only [Bool.and_eq_true, decide_eq_true_eq] at h
  exact ⟨by omega, by omega, by omega, by omega⟩
theorem qid_len {q : QidR} : q.bytes.length = 13 := by simp [QidR.bytes, le_length]
theorem qids_len : ∀ (l : List QidR), (l.flatMap QidR.bytes).length = 13 * l.length
  | [] => rfl
  | q :: l => by rw [List.flatMap_cons, List.length_append, qids_len l, qid_len, List.length_cons]; omega
theorem tbody_len {a : TellR} (fit : a.Fit) : a.body.length < 5000 := by
  have f1 := fit.n
  have f2 := fit.s
  have f3 := fit.l
  have f4 := fit.d
  have f5 := qids_len a.qids
  unfold TellR.body
  by_cases h2 : tkind a.ty = 2
  · rw [if_pos h2]; simp only [List.length_append, le_length]; omega
  rw [if_neg h2]
  by_cases h3 : tkind a.ty = 3
  · rw [if_pos h3, qid_len]; omega
  rw [if_neg h3]
  by_cases h4 : tkind a.ty = 4
  · rw [if_pos h4, le_length]; omega
  rw [if_neg h4]
  by_cases h5 : tkind a.ty = 5
  · rw [if_pos h5]; unfold qidsB; simp only [List.length_append, le_length]; omega
  rw [if_neg h5]
  by_cases h6 : tkind a.ty = 6
  · rw [if_pos h6]; simp only [List.length_append, le_length, qid_len]; omega
  rw [if_neg h6]
  by_cases h7 : tkind a.ty = 7
  · rw [if_pos h7]; simp only [List.length_append, le_length]; omega
  rw [if_neg h7]
  by_cases h8 : tkind a.ty = 8
  · rw [if_pos h8, le_length]; omega
  rw [if_neg h8]
  by_cases h9 : tkind a.ty = 9
  · rw [if_pos h9]; simp only [List.length_append, le_length, qid_len]; omega
  rw [if_neg h9]; simp
theorem town2 {a : TellR} (h : tkind a.ty = 2) : a.own = ⟨a.ty, a.tag, 0, a.msize, 0, 0, a.name, QidR.z, [], [], StatR.z⟩ := by unfold TellR.own; simp [h]
theorem town3 {a : TellR} (h : tkind a.ty = 3) : a.own = ⟨a.ty, a.tag, 0, 0, 0, 0, [], a.q, [], [], StatR.z⟩ := by unfold TellR.own; simp [h]
theorem town4 {a : TellR} (h : tkind a.ty = 4) : a.own = ⟨a.ty, a.tag, a.code, 0, 0, 0, [], QidR.z, [], [], StatR.z⟩ := by unfold TellR.own; simp [h]
theorem town5 {a : TellR} (h : tkind a.ty = 5) : a.own = ⟨a.ty, a.tag, 0, 0, 0, 0, [], QidR.z, a.qids, [], StatR.z⟩ := by unfold TellR.own; simp [h]
theorem town6 {a : TellR} (h : tkind a.ty = 6) : a.own = ⟨a.ty, a.tag, 0, 0, a.iounit, 0, [], a.q, [], [], StatR.z⟩ := by unfold TellR.own; simp [h]
theorem town7 {a : TellR} (h : tkind a.ty = 7) : a.own = ⟨a.ty, a.tag, 0, 0, 0, 0, [], QidR.z, [], a.data, StatR.z⟩ := by unfold TellR.own; simp [h]
theorem town8 {a : TellR} (h : tkind a.ty = 8) : a.own = ⟨a.ty, a.tag, 0, 0, 0, a.count, [], QidR.z, [], [], StatR.z⟩ := by unfold TellR.own; simp [h]
theorem town9 {a : TellR} (h : tkind a.ty = 9) : a.own = ⟨a.ty, a.tag, 0, 0, 0, 0, [], QidR.z, [], [], a.s⟩ := by unfold TellR.own; simp [h]
theorem town0 {a : TellR} (n2 : ¬ tkind a.ty = 2) (n3 : ¬ tkind a.ty = 3) (n4 : ¬ tkind a.ty = 4) (n5 : ¬ tkind a.ty = 5) (n6 : ¬ tkind a.ty = 6) (n7 : ¬ tkind a.ty = 7) (n8 : ¬ tkind a.ty = 8) (n9 : ¬ tkind a.ty = 9) : a.own = ⟨a.ty, a.tag, 0, 0, 0, 0, [], QidR.z, [], [], StatR.z⟩ := by unfold TellR.own; simp [n2, n3, n4, n5, n6, n7, n8, n9]
section
variable {H H' : List Block} {S : List (List Block)} {M' : Mem} {b : AV} {l : List UInt8}
theorem own115 {a : TellR} {vn vd : AV} (hn : QL H vn a.qids) (hd : BH H vd a.data) : AC Try.prog 115 [.agg (a.cells vn vd)] ⟨H, S⟩ (fun v M' => v = .agg (TellR.cells a.own (a.ownN vn) (a.ownD vd)) ∧ M' = ⟨H, S⟩) := by
  refine AC_of_WE Try.func115 rfl ?_
  simp only [Try.ntmps115, List.length_cons, List.length_nil, List.replicate, List.cons_append, List.nil_append, mem_enter]
  have c11 := fun b : TellR => tcells_st b hn.one.1 hd.one.1
  have c00 := fun b : TellR => tcells_st b (vn := .nilsl) (vd := .nilsl) rfl rfl
  have c10 := fun b : TellR => tcells_st b (vn := vn) (vd := .nilsl) hn.one.1 rfl
  have c01 := fun b : TellR => tcells_st b (vn := .nilsl) (vd := vd) rfl hd.one.1
  (repeat refine W_seq ?_); refine W_regionT [] ?_
  simp only [go_sem, wboxL (c11 a), wallocL, List.nil_append, List.cons_append, List.length_nil, List.length_cons, Nat.zero_add, Nat.reduceAdd]
  (repeat refine W_seq ?_); refine W_regionT [] ?_
  simp only [go_sem, tbld2, wallocL, wS_2 (c00 _), wa0_0, wa1_0, wa2_0, wa3_0, wa4_0, wa5_0, wa6_0, wa7_0, wa8_0, wa9_0, wa10_0, wa88_12_0, wa88_15_0, wa88_16_0, wa88_17_0, wa85_7_0, wa85_8_0, wa85_9_0, wa85_13_0, wa85_14_0, wl0_0, wl1_0, wl2_0, wl3_0, wl4_0, wl5_0, wl6_0, wl7_0, wl8_0, wl9_0, wl10_0, wl11_0, wl12_0, wl13_0, wl14_0, wl15_0, wl16_0, wl17_0, wl7g85_0, wl12g85_0, wl12g88_0, wL_0, List.nil_append, List.cons_append, List.length_nil, List.length_cons, Nat.zero_add, Nat.reduceAdd]
  (repeat refine W_seq ?_); refine W_regionT [] ?_
  simp only [go_sem, wa0_0, wa1_0, wa2_0, wa3_0, wa4_0, wa5_0, wa6_0, wa7_0, wa8_0, wa9_0, wa10_0, wa88_12_0, wa88_15_0, wa88_16_0, wa88_17_0, wa85_7_0, wa85_8_0, wa85_9_0, wa85_13_0, wa85_14_0, wl0_0, wl1_0, wl2_0, wl3_0, wl4_0, wl5_0, wl6_0, wl7_0, wl8_0, wl9_0, wl10_0, wl11_0, wl12_0, wl13_0, wl14_0, wl15_0, wl16_0, wl17_0, wl7g85_0, wl12g85_0, wl12g88_0, wL_0]
  refine AT_call rfl rfl (kind114) fun v M1 hd1 h1 => ?_
  obtain ⟨hv, hM⟩ := h1; subst hv; subst hM
  simp only [go_sem]
  (repeat refine W_seq ?_)
  refine W_block ?_
  (repeat refine W_seq ?_); refine W_regionT [] ?_
  simp only [go_sem]
  (repeat refine W_seq ?_)
  refine W_cond_if rfl (fun hb => ?_) (fun hb => ?_)
  · have hk : tkind a.ty = 2 := by simpa using hb
    (repeat refine W_seq ?_); refine W_regionD [] [5, 7] [0, 1, 2, 3, 4, 5, 6, 7] [0, 1, 0, 4, 3, 19, 63, 127] mixedM (by kernel_rfl) (by kernel_rfl) (by kernel_rfl) ?_
    simp only [listed, go_sem]
    refine AD_read (v := .ptr ⟨S.length + 1, 0, 3⟩) (fun M' => M'.get (S.length + 1) 0 = some (Block.row ⟨90, 18, TellR.cells a vn vd, false, false⟩)) rfl rfl (fun M' h => by show pureV (fieldAddrA Try.prog 90 (.ptr ⟨S.length + 1, 0, 0⟩) 3 M') M' = _; rw [wa3 h]; rfl) (gt0) ?_
    simp only [go_sem]
    refine AD_read (v := .int .i64 a.msize) (fun M' => M'.get (S.length + 1) 0 = some (Block.row ⟨90, 18, TellR.cells a vn vd, false, false⟩)) rfl rfl (fun M' h => by show pureV (loadA Try.prog 3 (.ptr ⟨S.length + 1, 0, 3⟩) M') M' = _; rw [wl3 h]; rfl) (gt0) ?_
    simp only [go_sem]
    refine AD_read (v := .ptr ⟨S.length + 1, 0, 6⟩) (fun M' => M'.get (S.length + 1) 0 = some (Block.row ⟨90, 18, TellR.cells a vn vd, false, false⟩)) rfl rfl (fun M' h => by show pureV (fieldAddrA Try.prog 90 (.ptr ⟨S.length + 1, 0, 0⟩) 6 M') M' = _; rw [wa6 h]; rfl) (gt0) ?_
    simp only [go_sem]
    refine AD_read (v := .str a.name) (fun M' => M'.get (S.length + 1) 0 = some (Block.row ⟨90, 18, TellR.cells a vn vd, false, false⟩)) rfl rfl (fun M' h => by show pureV (loadA Try.prog 9 (.ptr ⟨S.length + 1, 0, 6⟩) M') M' = _; rw [wl6 h]; rfl) (gt0) ?_
    simp only [go_sem]
    refine AD_read (v := .ptr ⟨S.length + 1, 2, 3⟩) (fun M' => M'.get (S.length + 1) 2 = some (Block.row ⟨90, 18, TellR.cells ⟨a.ty, a.tag, 0, 0, 0, 0, [], QidR.z, [], [], StatR.z⟩ .nilsl .nilsl, false, false⟩)) rfl rfl (fun M' h => by show pureV (fieldAddrA Try.prog 90 (.ptr ⟨S.length + 1, 2, 0⟩) 3 M') M' = _; rw [wa3 h]; rfl) (gt2) ?_
    simp only [go_sem]
    refine AD_loud (v := .undef) (M' := ⟨H, [Block.row ⟨90, 18, TellR.cells a vn vd, false, false⟩, Block.row ⟨90, 18, TellR.cells TellR.z .nilsl .nilsl, false, false⟩, Block.row ⟨90, 18, TellR.cells ⟨a.ty, a.tag, 0, a.msize, 0, 0, [], QidR.z, [], [], StatR.z⟩ .nilsl .nilsl, false, false⟩] :: S⟩) rfl (ws3_2 (a := ⟨a.ty, a.tag, 0, 0, 0, 0, [], QidR.z, [], [], StatR.z⟩)) ⟨fun ha => absurd (ha.symm.trans (show ancB _ _ _ _ = true by kernel_rfl)) (by decide), fun _ => gt0, fun _ => gt0, fun ha => absurd (ha.symm.trans (show ancB _ _ _ _ = true by kernel_rfl)) (by decide), fun ha => absurd (ha.symm.trans (show ancB _ _ _ _ = true by kernel_rfl)) (by decide), trivial⟩ ?_
    simp only [go_sem]
    refine AD_read (v := .ptr ⟨S.length + 1, 2, 6⟩) (fun M' => M'.get (S.length + 1) 2 = some (Block.row ⟨90, 18, TellR.cells ⟨a.ty, a.tag, 0, a.msize, 0, 0, [], QidR.z, [], [], StatR.z⟩ .nilsl .nilsl, false, false⟩)) rfl rfl (fun M' h => by show pureV (fieldAddrA Try.prog 90 (.ptr ⟨S.length + 1, 2, 0⟩) 6 M') M' = _; rw [wa6 h]; rfl) (gt2) ?_
    simp only [go_sem]
    refine AD_loud (v := .undef) (M' := ⟨H, [Block.row ⟨90, 18, TellR.cells a vn vd, false, false⟩, Block.row ⟨90, 18, TellR.cells TellR.z .nilsl .nilsl, false, false⟩, Block.row ⟨90, 18, TellR.cells ⟨a.ty, a.tag, 0, a.msize, 0, 0, a.name, QidR.z, [], [], StatR.z⟩ .nilsl .nilsl, false, false⟩] :: S⟩) rfl (ws6_2 (a := ⟨a.ty, a.tag, 0, a.msize, 0, 0, [], QidR.z, [], [], StatR.z⟩)) ⟨fun ha => absurd (ha.symm.trans (show ancB _ _ _ _ = true by kernel_rfl)) (by decide), fun ha => absurd (ha.symm.trans (show ancB _ _ _ _ = true by kernel_rfl)) (by decide), fun ha => absurd (ha.symm.trans (show ancB _ _ _ _ = true by kernel_rfl)) (by decide), fun ha => absurd (ha.symm.trans (show ancB _ _ _ _ = true by kernel_rfl)) (by decide), fun ha => absurd (ha.symm.trans (show ancB _ _ _ _ = true by kernel_rfl)) (by decide), fun ha => absurd (ha.symm.trans (show ancB _ _ _ _ = true by kernel_rfl)) (by decide), trivial⟩ ?_
    simp only [go_sem]
    (repeat refine W_seq ?_); refine W_regionT [] ?_
    simp only [go_sem, wL_2, wS_1 (c00 _), wS_1 (c10 _), wS_1 (c01 _)]
    refine W_ret ⟨.inr rfl, [.agg (TellR.cells a.own .nilsl .nilsl)], ?_, ?_, ?_, rfl⟩
    · show (match loadA Try.prog 90 (.ptr ⟨S.length + 1, 1, 0⟩) _, resE Try.prog _ _ [] with | some v, some vs => some (v :: vs) | _, _ => none) = _
      rw [wL_1, town2 hk]; rfl
    · show (AV.agg _).lev0 = true
      have e : lev0s (TellR.cells a.own .nilsl .nilsl) = true := tcells_lev rfl rfl
      simp only [AV.lev0, e]
    · rw [show a.ownN vn = .nilsl from by unfold TellR.ownN; simp [hk], show a.ownD vd = .nilsl from by unfold TellR.ownD; simp [hk]]; rfl
  · have n2 : ¬ tkind a.ty = 2 := by simpa using hb
    (repeat refine W_seq ?_); refine W_regionT [] ?_
    simp only [go_sem]
    (repeat refine W_seq ?_)
    refine W_cond_if rfl (fun hb => ?_) (fun hb => ?_)
    · have hk : tkind a.ty = 3 := by simpa using hb
      (repeat refine W_seq ?_); refine W_regionT [] ?_
      simp only [go_sem, wa7_0, wl7g85_0, wa7_2, ws7g85_2]
      (repeat refine W_seq ?_); refine W_regionT [] ?_
      simp only [go_sem, wL_2, wS_1 (c00 _), wS_1 (c10 _), wS_1 (c01 _)]
      refine W_ret ⟨.inr rfl, [.agg (TellR.cells a.own .nilsl .nilsl)], ?_, ?_, ?_, rfl⟩
      · show (match loadA Try.prog 90 (.ptr ⟨S.length + 1, 1, 0⟩) _, resE Try.prog _ _ [] with | some v, some vs => some (v :: vs) | _, _ => none) = _
        rw [wL_1, town3 hk]; rfl
      · show (AV.agg _).lev0 = true
        have e : lev0s (TellR.cells a.own .nilsl .nilsl) = true := tcells_lev rfl rfl
        simp only [AV.lev0, e]
      · rw [show a.ownN vn = .nilsl from by unfold TellR.ownN; simp [n2, hk], show a.ownD vd = .nilsl from by unfold TellR.ownD; simp [n2, hk]]; rfl
    · have n3 : ¬ tkind a.ty = 3 := by simpa using hb
      (repeat refine W_seq ?_); refine W_regionT [] ?_
      simp only [go_sem]
      (repeat refine W_seq ?_)
      refine W_cond_if rfl (fun hb => ?_) (fun hb => ?_)
      · have hk : tkind a.ty = 4 := by simpa using hb
        (repeat refine W_seq ?_); refine W_regionT [] ?_
        simp only [go_sem, wa2_0, wl2_0, wa2_2, ws2_2]
        (repeat refine W_seq ?_); refine W_regionT [] ?_
        simp only [go_sem, wL_2, wS_1 (c00 _), wS_1 (c10 _), wS_1 (c01 _)]
        refine W_ret ⟨.inr rfl, [.agg (TellR.cells a.own .nilsl .nilsl)], ?_, ?_, ?_, rfl⟩
        · show (match loadA Try.prog 90 (.ptr ⟨S.length + 1, 1, 0⟩) _, resE Try.prog _ _ [] with | some v, some vs => some (v :: vs) | _, _ => none) = _
          rw [wL_1, town4 hk]; rfl
        · show (AV.agg _).lev0 = true
          have e : lev0s (TellR.cells a.own .nilsl .nilsl) = true := tcells_lev rfl rfl
          simp only [AV.lev0, e]
        · rw [show a.ownN vn = .nilsl from by unfold TellR.ownN; simp [n2, n3, hk], show a.ownD vd = .nilsl from by unfold TellR.ownD; simp [n2, n3, hk]]; rfl
      · have n4 : ¬ tkind a.ty = 4 := by simpa using hb
        (repeat refine W_seq ?_); refine W_regionT [] ?_
        simp only [go_sem]
        (repeat refine W_seq ?_)
        refine W_cond_if rfl (fun hb => ?_) (fun hb => ?_)
        · have hk : tkind a.ty = 5 := by simpa using hb
          (repeat refine W_seq ?_); refine W_regionT [] ?_
          simp only [go_sem, wa8_0, wl10_0, wa8_2, ws10_2 hn.one.1 hn.one.2]
          (repeat refine W_seq ?_); refine W_regionT [] ?_
          simp only [go_sem, wL_2, wS_1 (c00 _), wS_1 (c10 _), wS_1 (c01 _)]
          refine W_ret ⟨.inr rfl, [.agg (TellR.cells a.own vn .nilsl)], ?_, ?_, ?_, rfl⟩
          · show (match loadA Try.prog 90 (.ptr ⟨S.length + 1, 1, 0⟩) _, resE Try.prog _ _ [] with | some v, some vs => some (v :: vs) | _, _ => none) = _
            rw [wL_1, town5 hk]; rfl
          · show (AV.agg _).lev0 = true
            have e : lev0s (TellR.cells a.own vn .nilsl) = true := tcells_lev hn.lev0' rfl
            simp only [AV.lev0, e]
          · rw [show a.ownN vn = vn from by unfold TellR.ownN; simp [n2, n3, n4, hk], show a.ownD vd = .nilsl from by unfold TellR.ownD; simp [n2, n3, n4, hk]]; rfl
        · have n5 : ¬ tkind a.ty = 5 := by simpa using hb
          (repeat refine W_seq ?_); refine W_regionT [] ?_
          simp only [go_sem]
          (repeat refine W_seq ?_)
          refine W_cond_if rfl (fun hb => ?_) (fun hb => ?_)
          · have hk : tkind a.ty = 6 := by simpa using hb
            (repeat refine W_seq ?_); refine W_regionD [] [5, 7] [0, 1, 2, 3, 4, 5, 6, 7] [0, 1, 0, 4, 3, 19, 63, 127] mixedM (by kernel_rfl) (by kernel_rfl) (by kernel_rfl) ?_
            simp only [listed, go_sem]
            refine AD_read (v := .ptr ⟨S.length + 1, 0, 7⟩) (fun M' => M'.get (S.length + 1) 0 = some (Block.row ⟨90, 18, TellR.cells a vn vd, false, false⟩)) rfl rfl (fun M' h => by show pureV (fieldAddrA Try.prog 90 (.ptr ⟨S.length + 1, 0, 0⟩) 7 M') M' = _; rw [wa7 h]; rfl) (gt0) ?_
            simp only [go_sem]
            refine AD_read (v := .agg a.q.cells) (fun M' => M'.get (S.length + 1) 0 = some (Block.row ⟨90, 18, TellR.cells a vn vd, false, false⟩)) rfl rfl (fun M' h => by show pureV (loadA Try.prog 85 (.ptr ⟨S.length + 1, 0, 7⟩) M') M' = _; rw [wl7g85 h]; rfl) (gt0) ?_
            simp only [go_sem]
            refine AD_read (v := .ptr ⟨S.length + 1, 0, 4⟩) (fun M' => M'.get (S.length + 1) 0 = some (Block.row ⟨90, 18, TellR.cells a vn vd, false, false⟩)) rfl rfl (fun M' h => by show pureV (fieldAddrA Try.prog 90 (.ptr ⟨S.length + 1, 0, 0⟩) 4 M') M' = _; rw [wa4 h]; rfl) (gt0) ?_
            simp only [go_sem]
            refine AD_read (v := .int .i64 a.iounit) (fun M' => M'.get (S.length + 1) 0 = some (Block.row ⟨90, 18, TellR.cells a vn vd, false, false⟩)) rfl rfl (fun M' h => by show pureV (loadA Try.prog 3 (.ptr ⟨S.length + 1, 0, 4⟩) M') M' = _; rw [wl4 h]; rfl) (gt0) ?_
            simp only [go_sem]
            refine AD_read (v := .ptr ⟨S.length + 1, 2, 7⟩) (fun M' => M'.get (S.length + 1) 2 = some (Block.row ⟨90, 18, TellR.cells ⟨a.ty, a.tag, 0, 0, 0, 0, [], QidR.z, [], [], StatR.z⟩ .nilsl .nilsl, false, false⟩)) rfl rfl (fun M' h => by show pureV (fieldAddrA Try.prog 90 (.ptr ⟨S.length + 1, 2, 0⟩) 7 M') M' = _; rw [wa7 h]; rfl) (gt2) ?_
            simp only [go_sem]
            refine AD_loud (v := .undef) (M' := ⟨H, [Block.row ⟨90, 18, TellR.cells a vn vd, false, false⟩, Block.row ⟨90, 18, TellR.cells TellR.z .nilsl .nilsl, false, false⟩, Block.row ⟨90, 18, TellR.cells ⟨a.ty, a.tag, 0, 0, 0, 0, [], a.q, [], [], StatR.z⟩ .nilsl .nilsl, false, false⟩] :: S⟩) rfl (ws7g85_2 (a := ⟨a.ty, a.tag, 0, 0, 0, 0, [], QidR.z, [], [], StatR.z⟩)) ⟨fun ha => absurd (ha.symm.trans (show ancB _ _ _ _ = true by kernel_rfl)) (by decide), fun _ => gt0, fun _ => gt0, fun ha => absurd (ha.symm.trans (show ancB _ _ _ _ = true by kernel_rfl)) (by decide), fun ha => absurd (ha.symm.trans (show ancB _ _ _ _ = true by kernel_rfl)) (by decide), trivial⟩ ?_
            simp only [go_sem]
            refine AD_read (v := .ptr ⟨S.length + 1, 2, 4⟩) (fun M' => M'.get (S.length + 1) 2 = some (Block.row ⟨90, 18, TellR.cells ⟨a.ty, a.tag, 0, 0, 0, 0, [], a.q, [], [], StatR.z⟩ .nilsl .nilsl, false, false⟩)) rfl rfl (fun M' h => by show pureV (fieldAddrA Try.prog 90 (.ptr ⟨S.length + 1, 2, 0⟩) 4 M') M' = _; rw [wa4 h]; rfl) (gt2) ?_
            simp only [go_sem]
            refine AD_loud (v := .undef) (M' := ⟨H, [Block.row ⟨90, 18, TellR.cells a vn vd, false, false⟩, Block.row ⟨90, 18, TellR.cells TellR.z .nilsl .nilsl, false, false⟩, Block.row ⟨90, 18, TellR.cells ⟨a.ty, a.tag, 0, 0, a.iounit, 0, [], a.q, [], [], StatR.z⟩ .nilsl .nilsl, false, false⟩] :: S⟩) rfl (ws4_2 (a := ⟨a.ty, a.tag, 0, 0, 0, 0, [], a.q, [], [], StatR.z⟩)) ⟨fun ha => absurd (ha.symm.trans (show ancB _ _ _ _ = true by kernel_rfl)) (by decide), fun ha => absurd (ha.symm.trans (show ancB _ _ _ _ = true by kernel_rfl)) (by decide), fun ha => absurd (ha.symm.trans (show ancB _ _ _ _ = true by kernel_rfl)) (by decide), fun ha => absurd (ha.symm.trans (show ancB _ _ _ _ = true by kernel_rfl)) (by decide), fun ha => absurd (ha.symm.trans (show ancB _ _ _ _ = true by kernel_rfl)) (by decide), fun ha => absurd (ha.symm.trans (show ancB _ _ _ _ = true by kernel_rfl)) (by decide), trivial⟩ ?_
            simp only [go_sem]
            (repeat refine W_seq ?_); refine W_regionT [] ?_
            simp only [go_sem, wL_2, wS_1 (c00 _), wS_1 (c10 _), wS_1 (c01 _)]
            refine W_ret ⟨.inr rfl, [.agg (TellR.cells a.own .nilsl .nilsl)], ?_, ?_, ?_, rfl⟩
            · show (match loadA Try.prog 90 (.ptr ⟨S.length + 1, 1, 0⟩) _, resE Try.prog _ _ [] with | some v, some vs => some (v :: vs) | _, _ => none) = _
              rw [wL_1, town6 hk]; rfl
            · show (AV.agg _).lev0 = true
              have e : lev0s (TellR.cells a.own .nilsl .nilsl) = true := tcells_lev rfl rfl
              simp only [AV.lev0, e]
            · rw [show a.ownN vn = .nilsl from by unfold TellR.ownN; simp [n2, n3, n4, n5, hk], show a.ownD vd = .nilsl from by unfold TellR.ownD; simp [n2, n3, n4, n5, hk]]; rfl
          · have n6 : ¬ tkind a.ty = 6 := by simpa using hb
            (repeat refine W_seq ?_); refine W_regionT [] ?_
            simp only [go_sem]
            (repeat refine W_seq ?_)
            refine W_cond_if rfl (fun hb => ?_) (fun hb => ?_)
            · have hk : tkind a.ty = 7 := by simpa using hb
              (repeat refine W_seq ?_); refine W_regionT [] ?_
              simp only [go_sem, wa9_0, wl11_0, wa9_2, ws11_2 hd.one.1 hd.one.2]
              (repeat refine W_seq ?_); refine W_regionT [] ?_
              simp only [go_sem, wL_2, wS_1 (c00 _), wS_1 (c10 _), wS_1 (c01 _)]
              refine W_ret ⟨.inr rfl, [.agg (TellR.cells a.own .nilsl vd)], ?_, ?_, ?_, rfl⟩
              · show (match loadA Try.prog 90 (.ptr ⟨S.length + 1, 1, 0⟩) _, resE Try.prog _ _ [] with | some v, some vs => some (v :: vs) | _, _ => none) = _
                rw [wL_1, town7 hk]; rfl
              · show (AV.agg _).lev0 = true
                have e : lev0s (TellR.cells a.own .nilsl vd) = true := tcells_lev rfl hd.lev0'
                simp only [AV.lev0, e]
              · rw [show a.ownN vn = .nilsl from by unfold TellR.ownN; simp [n2, n3, n4, n5, n6, hk], show a.ownD vd = vd from by unfold TellR.ownD; simp [n2, n3, n4, n5, n6, hk]]; rfl
            · have n7 : ¬ tkind a.ty = 7 := by simpa using hb
              (repeat refine W_seq ?_); refine W_regionT [] ?_
              simp only [go_sem]
              (repeat refine W_seq ?_)
              refine W_cond_if rfl (fun hb => ?_) (fun hb => ?_)
              · have hk : tkind a.ty = 8 := by simpa using hb
                (repeat refine W_seq ?_); refine W_regionT [] ?_
                simp only [go_sem, wa5_0, wl5_0, wa5_2, ws5_2]
                (repeat refine W_seq ?_); refine W_regionT [] ?_
                simp only [go_sem, wL_2, wS_1 (c00 _), wS_1 (c10 _), wS_1 (c01 _)]
                refine W_ret ⟨.inr rfl, [.agg (TellR.cells a.own .nilsl .nilsl)], ?_, ?_, ?_, rfl⟩
                · show (match loadA Try.prog 90 (.ptr ⟨S.length + 1, 1, 0⟩) _, resE Try.prog _ _ [] with | some v, some vs => some (v :: vs) | _, _ => none) = _
                  rw [wL_1, town8 hk]; rfl
                · show (AV.agg _).lev0 = true
                  have e : lev0s (TellR.cells a.own .nilsl .nilsl) = true := tcells_lev rfl rfl
                  simp only [AV.lev0, e]
                · rw [show a.ownN vn = .nilsl from by unfold TellR.ownN; simp [n2, n3, n4, n5, n6, n7, hk], show a.ownD vd = .nilsl from by unfold TellR.ownD; simp [n2, n3, n4, n5, n6, n7, hk]]; rfl
              · have n8 : ¬ tkind a.ty = 8 := by simpa using hb
                (repeat refine W_seq ?_); refine W_regionT [] ?_
                simp only [go_sem]
                (repeat refine W_seq ?_)
                refine W_cond_if rfl (fun hb => ?_) (fun hb => ?_)
                · have hk : tkind a.ty = 9 := by simpa using hb
                  (repeat refine W_seq ?_); refine W_regionT [] ?_
                  simp only [go_sem, wa10_0, wl12g88_0, wa10_2, ws12g88_2]
                  (repeat refine W_seq ?_); refine W_regionT [] ?_
                  simp only [go_sem, wL_2, wS_1 (c00 _), wS_1 (c10 _), wS_1 (c01 _)]
                  refine W_ret ⟨.inr rfl, [.agg (TellR.cells a.own .nilsl .nilsl)], ?_, ?_, ?_, rfl⟩
                  · show (match loadA Try.prog 90 (.ptr ⟨S.length + 1, 1, 0⟩) _, resE Try.prog _ _ [] with | some v, some vs => some (v :: vs) | _, _ => none) = _
                    rw [wL_1, town9 hk]; rfl
                  · show (AV.agg _).lev0 = true
                    have e : lev0s (TellR.cells a.own .nilsl .nilsl) = true := tcells_lev rfl rfl
                    simp only [AV.lev0, e]
                  · rw [show a.ownN vn = .nilsl from by unfold TellR.ownN; simp [n2, n3, n4, n5, n6, n7, n8, hk], show a.ownD vd = .nilsl from by unfold TellR.ownD; simp [n2, n3, n4, n5, n6, n7, n8, hk]]; rfl
                · have n9 : ¬ tkind a.ty = 9 := by simpa using hb
                  refine W_skip ?_
                  simp only [go_sem]
                  (repeat refine W_seq ?_); refine W_regionT [] ?_
                  simp only [go_sem, wL_2, wS_1 (c00 _), wS_1 (c10 _), wS_1 (c01 _)]
                  refine W_ret ⟨.inr rfl, [.agg (TellR.cells a.own .nilsl .nilsl)], ?_, ?_, ?_, rfl⟩
                  · show (match loadA Try.prog 90 (.ptr ⟨S.length + 1, 1, 0⟩) _, resE Try.prog _ _ [] with | some v, some vs => some (v :: vs) | _, _ => none) = _
                    rw [wL_1, town0 n2 n3 n4 n5 n6 n7 n8 n9]; rfl
                  · show (AV.agg _).lev0 = true
                    have e : lev0s (TellR.cells a.own .nilsl .nilsl) = true := tcells_lev rfl rfl
                    simp only [AV.lev0, e]
                  · rw [show a.ownN vn = .nilsl from by unfold TellR.ownN; simp [n2, n3, n4, n5, n6, n7, n8, n9], show a.ownD vd = .nilsl from by unfold TellR.ownD; simp [n2, n3, n4, n5, n6, n7, n8, n9]]; rfl
theorem two86 {q r : QidR} : buildSliceA Try.prog 86 true 2 [(0, .agg q.cells), (1, .agg r.cells)] ⟨H, S⟩ = some (.sl ⟨0, H.length, 0⟩ 2 (some 2), ⟨H ++ [.row ⟨85, 3, q.cells ++ r.cells, false, false⟩], S⟩) := by
  unfold buildSliceA
  simp only [ti86, ti85]
  have e1 : fillA (fun i => some (i * 3, 3)) (zeros (AV.agg QidR.z.cells).cells 2) [(0, .agg q.cells), (1, .agg r.cells)] = some (q.cells ++ r.cells) := rfl
  rw [if_pos ⟨by decide, rfl, rfl⟩]
  erw [e1]
  simp only
  rw [if_pos ⟨(rfl : 6 % 3 = 0), Nat.le_refl 6, rfl⟩]
  rfl
theorem q_cons {v : AV} {l : List QidR} {q r : QidR} (h : QL H v l) (hl : l.length < 1000000) : ∃ v' H', appendA Try.prog 86 86 true (.sl ⟨0, H.length, 0⟩ 2 (some 2)) v ⟨H ++ [.row ⟨85, 3, q.cells ++ r.cells, false, false⟩], S⟩ = some (v', ⟨H', S⟩) ∧ QL H' v' (q :: r :: l) ∧ UpdH no H H' := by
  have h1 : OH (H ++ [Block.row ⟨85, 3, q.cells ++ r.cells, false, false⟩]) (.sl ⟨0, H.length, 0⟩ 2 (some 2)) 85 3 (q.cells ++ r.cells) 2 := .inr ⟨H.length, some 2, false, rfl, .inr rfl, by simp, rfl⟩
  have h2 : QL (H ++ [Block.row ⟨85, 3, q.cells ++ r.cells, false, false⟩]) v l := h.new UpdH.push
  obtain ⟨v', H', a1, a2, a3, a4⟩ := appH (S := S) ti86 rfl ti85 ti86 rfl rfl ⟨by decide, by decide, rfl, rfl⟩ h1 (content_rh h2.1) (by
    rw [List.all_eq_true]; intro x hx
    obtain ⟨q, _, hq⟩ := List.mem_flatMap.1 hx
    exact List.all_eq_true.1 (qcells_st q) x hq) (by show (2 + l.length) * 24 ≤ _; omega)
  refine ⟨v', H', a1, ⟨?_, ?_⟩, (UpdH.push (p := no)).then a3 (fun k hk h => by simp [AV.loc] at h; omega)⟩
  · rw [show (q :: r :: l).length = 2 + l.length by simp; omega, List.flatMap_cons, List.flatMap_cons, ← List.append_assoc]
    exact OH.rh a2
  · rcases a2 with ⟨h, _⟩ | ⟨ix, c, mv, h, _⟩ <;> rw [h] <;> rfl
theorem may65 {x : AV} {a : TellR} (hx : TellV H x a) (hl : a.qids.length < 900000) : AC Try.prog 65 [x] ⟨H, S⟩ (fun v M' => v = .bool a.may ∧ ∃ H', M' = ⟨H', S⟩ ∧ UpdH no H H') := by
  refine AC_of_WE Try.func65 rfl ?_
  simp only [Try.ntmps65, List.length_cons, List.length_nil, List.replicate, List.cons_append, List.nil_append, mem_enter]
  obtain ⟨vn, vd, rfl, hn, hd⟩ := hx
  have hn2 := TellR.own_ql hn
  have hd2 := TellR.own_bh hd
  have st1 := tcells_st a hn.one.1 hd.one.1
  have hx : TellV H (.agg (a.cells vn vd)) a := ⟨vn, vd, rfl, hn, hd⟩
  have hx2 : TellV H (.agg (TellR.cells a.own (a.ownN vn) (a.ownD vd))) a.own := ⟨_, _, rfl, hn2, hd2⟩
  (repeat refine W_seq ?_); refine W_regionT [] ?_
  simp only [go_sem, wboxL st1, List.nil_append, List.cons_append, List.length_nil, List.length_cons, Nat.zero_add, Nat.reduceAdd]
  rcases ff4 (tknown a.ty) (decide (a = a.own)) (inB a.tag 0 65535) (inB a.code 0 65535) with Q | Q | Q | Q | Q
  · (repeat refine W_seq ?_); refine W_regionD [] [2, 7, 8, 14, 20] [0, 1, 2, 3, 4, 5, 6, 7, 8, 9, 10, 11, 12, 13, 14, 15, 16, 17, 18, 19, 20, 21, 22] [0, 1, 3, 7, 15, 31, 31, 95, 255, 511, 1023, 2047, 4095, 8191, 16383, 32767, 65535, 131071, 262143, 524287, 1048575, 2097151, 4194303] mixedM (by kernel_rfl) (by kernel_rfl) (by kernel_rfl) ?_
    simp only [listed, go_sem, Q, tk0, Bool.and_true, Bool.true_and, Bool.false_and, Bool.and_false, Bool.not_true, Bool.not_false]
    refine AD_read (v := .ptr ⟨S.length + 1, 0, 0⟩) (fun M' => M'.get (S.length + 1) 0 = some (Block.row ⟨90, 18, TellR.cells a vn vd, false, false⟩)) rfl rfl (fun M' h => by show pureV (fieldAddrA Try.prog 90 (.ptr ⟨S.length + 1, 0, 0⟩) 0 M') M' = _; rw [wa0 h]; rfl) (gt0) ?_
    simp only [go_sem, Q, tk0, Bool.and_true, Bool.true_and, Bool.false_and, Bool.and_false, Bool.not_true, Bool.not_false]
    refine AD_read (v := .int .i64 a.ty) (fun M' => M'.get (S.length + 1) 0 = some (Block.row ⟨90, 18, TellR.cells a vn vd, false, false⟩)) rfl rfl (fun M' h => by show pureV (loadA Try.prog 3 (.ptr ⟨S.length + 1, 0, 0⟩) M') M' = _; rw [wl0 h]; rfl) (gt0) ?_
    simp only [go_sem, Q, tk0, Bool.and_true, Bool.true_and, Bool.false_and, Bool.and_false, Bool.not_true, Bool.not_false]
    refine AD_call rfl rfl rfl (kind114) fun v M1 hd1 h1 => ?_
    obtain ⟨hv, hM⟩ := h1; subst hv; subst hM
    refine ⟨⟨fun _ => gt0, fun _ => gt0, trivial⟩, ?_⟩
    simp only [go_sem, Q, tk0, Bool.and_true, Bool.true_and, Bool.false_and, Bool.and_false, Bool.not_true, Bool.not_false]
    have QH := Q
    (repeat refine W_seq ?_)
    refine W_cond (b := true) rfl ?_
    simp only [if_true]
    (repeat refine W_seq ?_); refine W_regionT [] ?_
    simp only [go_sem]
    refine W_ret ⟨.inr rfl, _, rfl, rfl, ?_, _, rfl, UpdH.refl⟩
    rw [show a.may = false by unfold TellR.may; simp only [Q, Bool.and_true, Bool.true_and, Bool.false_and, Bool.and_false, Bool.not_true, Bool.not_false]]; rfl
  · (repeat refine W_seq ?_); refine W_regionD [] [2, 7, 8, 14, 20] [0, 1, 2, 3, 4, 5, 6, 7, 8, 9, 10, 11, 12, 13, 14, 15, 16, 17, 18, 19, 20, 21, 22] [0, 1, 3, 7, 15, 31, 31, 95, 255, 511, 1023, 2047, 4095, 8191, 16383, 32767, 65535, 131071, 262143, 524287, 1048575, 2097151, 4194303] mixedM (by kernel_rfl) (by kernel_rfl) (by kernel_rfl) ?_
    simp only [listed, go_sem, Q, tk0, Bool.and_true, Bool.true_and, Bool.false_and, Bool.and_false, Bool.not_true, Bool.not_false]
    refine AD_read (v := .ptr ⟨S.length + 1, 0, 0⟩) (fun M' => M'.get (S.length + 1) 0 = some (Block.row ⟨90, 18, TellR.cells a vn vd, false, false⟩)) rfl rfl (fun M' h => by show pureV (fieldAddrA Try.prog 90 (.ptr ⟨S.length + 1, 0, 0⟩) 0 M') M' = _; rw [wa0 h]; rfl) (gt0) ?_
    simp only [go_sem, Q, tk0, Bool.and_true, Bool.true_and, Bool.false_and, Bool.and_false, Bool.not_true, Bool.not_false]
    refine AD_read (v := .int .i64 a.ty) (fun M' => M'.get (S.length + 1) 0 = some (Block.row ⟨90, 18, TellR.cells a vn vd, false, false⟩)) rfl rfl (fun M' h => by show pureV (loadA Try.prog 3 (.ptr ⟨S.length + 1, 0, 0⟩) M') M' = _; rw [wl0 h]; rfl) (gt0) ?_
    simp only [go_sem, Q, tk0, Bool.and_true, Bool.true_and, Bool.false_and, Bool.and_false, Bool.not_true, Bool.not_false]
    refine AD_call rfl rfl rfl (kind114) fun v M1 hd1 h1 => ?_
    obtain ⟨hv, hM⟩ := h1; subst hv; subst hM
    refine ⟨⟨fun _ => gt0, fun _ => gt0, trivial⟩, ?_⟩
    simp only [go_sem, Q, tk0, Bool.and_true, Bool.true_and, Bool.false_and, Bool.and_false, Bool.not_true, Bool.not_false]
    refine AD_read (v := .agg (a.cells vn vd)) (fun M' => M'.get (S.length + 1) 0 = some (Block.row ⟨90, 18, TellR.cells a vn vd, false, false⟩)) rfl rfl (fun M' h => by show pureV (loadA Try.prog 90 (.ptr ⟨S.length + 1, 0, 0⟩) M') M' = _; rw [wL h]; rfl) (gt0) ?_
    simp only [go_sem, Q, tk0, Bool.and_true, Bool.true_and, Bool.false_and, Bool.and_false, Bool.not_true, Bool.not_false]
    refine AD_read (v := .agg (a.cells vn vd)) (fun M' => M'.get (S.length + 1) 0 = some (Block.row ⟨90, 18, TellR.cells a vn vd, false, false⟩)) rfl rfl (fun M' h => by show pureV (loadA Try.prog 90 (.ptr ⟨S.length + 1, 0, 0⟩) M') M' = _; rw [wL h]; rfl) (gt0) ?_
    simp only [go_sem, Q, tk0, Bool.and_true, Bool.true_and, Bool.false_and, Bool.and_false, Bool.not_true, Bool.not_false]
    refine AD_call rfl rfl rfl (own115 hn hd) fun v M1 hd1 h1 => ?_
    obtain ⟨hv, hM⟩ := h1; subst hv; subst hM
    refine ⟨⟨fun _ => gt0, fun _ => gt0, fun _ => gt0, fun _ => gt0, trivial⟩, ?_⟩
    simp only [go_sem, Q, tk0, Bool.and_true, Bool.true_and, Bool.false_and, Bool.and_false, Bool.not_true, Bool.not_false]
    refine AD_call rfl rfl rfl (same68 hx hx2 (by omega)) fun v M1 hd1 h1 => ?_
    obtain ⟨hv, hM⟩ := h1; subst hv; subst hM
    refine ⟨⟨fun _ => gt0, fun _ => gt0, fun _ => gt0, fun _ => gt0, trivial⟩, ?_⟩
    simp only [go_sem, Q, tk0, Bool.and_true, Bool.true_and, Bool.false_and, Bool.and_false, Bool.not_true, Bool.not_false]
    have QH := Q
    (repeat refine W_seq ?_)
    refine W_cond (b := true) rfl ?_
    simp only [if_true]
    (repeat refine W_seq ?_); refine W_regionT [] ?_
    simp only [go_sem]
    refine W_ret ⟨.inr rfl, _, rfl, rfl, ?_, _, rfl, UpdH.refl⟩
    rw [show a.may = false by unfold TellR.may; simp only [Q, Bool.and_true, Bool.true_and, Bool.false_and, Bool.and_false, Bool.not_true, Bool.not_false]]; rfl
  · (repeat refine W_seq ?_); refine W_regionD [] [2, 7, 8, 14, 20] [0, 1, 2, 3, 4, 5, 6, 7, 8, 9, 10, 11, 12, 13, 14, 15, 16, 17, 18, 19, 20, 21, 22] [0, 1, 3, 7, 15, 31, 31, 95, 255, 511, 1023, 2047, 4095, 8191, 16383, 32767, 65535, 131071, 262143, 524287, 1048575, 2097151, 4194303] mixedM (by kernel_rfl) (by kernel_rfl) (by kernel_rfl) ?_
    simp only [listed, go_sem, Q, tk0, Bool.and_true, Bool.true_and, Bool.false_and, Bool.and_false, Bool.not_true, Bool.not_false]
    refine AD_read (v := .ptr ⟨S.length + 1, 0, 0⟩) (fun M' => M'.get (S.length + 1) 0 = some (Block.row ⟨90, 18, TellR.cells a vn vd, false, false⟩)) rfl rfl (fun M' h => by show pureV (fieldAddrA Try.prog 90 (.ptr ⟨S.length + 1, 0, 0⟩) 0 M') M' = _; rw [wa0 h]; rfl) (gt0) ?_
    simp only [go_sem, Q, tk0, Bool.and_true, Bool.true_and, Bool.false_and, Bool.and_false, Bool.not_true, Bool.not_false]
    refine AD_read (v := .int .i64 a.ty) (fun M' => M'.get (S.length + 1) 0 = some (Block.row ⟨90, 18, TellR.cells a vn vd, false, false⟩)) rfl rfl (fun M' h => by show pureV (loadA Try.prog 3 (.ptr ⟨S.length + 1, 0, 0⟩) M') M' = _; rw [wl0 h]; rfl) (gt0) ?_
    simp only [go_sem, Q, tk0, Bool.and_true, Bool.true_and, Bool.false_and, Bool.and_false, Bool.not_true, Bool.not_false]
    refine AD_call rfl rfl rfl (kind114) fun v M1 hd1 h1 => ?_
    obtain ⟨hv, hM⟩ := h1; subst hv; subst hM
    refine ⟨⟨fun _ => gt0, fun _ => gt0, trivial⟩, ?_⟩
    simp only [go_sem, Q, tk0, Bool.and_true, Bool.true_and, Bool.false_and, Bool.and_false, Bool.not_true, Bool.not_false]
    refine AD_read (v := .agg (a.cells vn vd)) (fun M' => M'.get (S.length + 1) 0 = some (Block.row ⟨90, 18, TellR.cells a vn vd, false, false⟩)) rfl rfl (fun M' h => by show pureV (loadA Try.prog 90 (.ptr ⟨S.length + 1, 0, 0⟩) M') M' = _; rw [wL h]; rfl) (gt0) ?_
    simp only [go_sem, Q, tk0, Bool.and_true, Bool.true_and, Bool.false_and, Bool.and_false, Bool.not_true, Bool.not_false]
    refine AD_read (v := .agg (a.cells vn vd)) (fun M' => M'.get (S.length + 1) 0 = some (Block.row ⟨90, 18, TellR.cells a vn vd, false, false⟩)) rfl rfl (fun M' h => by show pureV (loadA Try.prog 90 (.ptr ⟨S.length + 1, 0, 0⟩) M') M' = _; rw [wL h]; rfl) (gt0) ?_
    simp only [go_sem, Q, tk0, Bool.and_true, Bool.true_and, Bool.false_and, Bool.and_false, Bool.not_true, Bool.not_false]
    refine AD_call rfl rfl rfl (own115 hn hd) fun v M1 hd1 h1 => ?_
    obtain ⟨hv, hM⟩ := h1; subst hv; subst hM
    refine ⟨⟨fun _ => gt0, fun _ => gt0, fun _ => gt0, fun _ => gt0, trivial⟩, ?_⟩
    simp only [go_sem, Q, tk0, Bool.and_true, Bool.true_and, Bool.false_and, Bool.and_false, Bool.not_true, Bool.not_false]
    refine AD_call rfl rfl rfl (same68 hx hx2 (by omega)) fun v M1 hd1 h1 => ?_
    obtain ⟨hv, hM⟩ := h1; subst hv; subst hM
    refine ⟨⟨fun _ => gt0, fun _ => gt0, fun _ => gt0, fun _ => gt0, trivial⟩, ?_⟩
    simp only [go_sem, Q, tk0, Bool.and_true, Bool.true_and, Bool.false_and, Bool.and_false, Bool.not_true, Bool.not_false]
    refine AD_read (v := .ptr ⟨S.length + 1, 0, 1⟩) (fun M' => M'.get (S.length + 1) 0 = some (Block.row ⟨90, 18, TellR.cells a vn vd, false, false⟩)) rfl rfl (fun M' h => by show pureV (fieldAddrA Try.prog 90 (.ptr ⟨S.length + 1, 0, 0⟩) 1 M') M' = _; rw [wa1 h]; rfl) (gt0) ?_
    simp only [go_sem, Q, tk0, Bool.and_true, Bool.true_and, Bool.false_and, Bool.and_false, Bool.not_true, Bool.not_false]
    refine AD_read (v := .int .i64 a.tag) (fun M' => M'.get (S.length + 1) 0 = some (Block.row ⟨90, 18, TellR.cells a vn vd, false, false⟩)) rfl rfl (fun M' h => by show pureV (loadA Try.prog 3 (.ptr ⟨S.length + 1, 0, 1⟩) M') M' = _; rw [wl1 h]; rfl) (gt0) ?_
    simp only [go_sem, Q, tk0, Bool.and_true, Bool.true_and, Bool.false_and, Bool.and_false, Bool.not_true, Bool.not_false]
    refine AD_call rfl rfl rfl (in116) fun v M1 hd1 h1 => ?_
    obtain ⟨hv, hM⟩ := h1; subst hv; subst hM
    refine ⟨⟨fun _ => gt0, fun _ => gt0, fun _ => gt0, fun _ => gt0, fun _ => gt0, fun _ => gt0, trivial⟩, ?_⟩
    simp only [go_sem, Q, tk0, Bool.and_true, Bool.true_and, Bool.false_and, Bool.and_false, Bool.not_true, Bool.not_false]
    have QH := Q
    (repeat refine W_seq ?_)
    refine W_cond (b := true) rfl ?_
    simp only [if_true]
    (repeat refine W_seq ?_); refine W_regionT [] ?_
    simp only [go_sem]
    refine W_ret ⟨.inr rfl, _, rfl, rfl, ?_, _, rfl, UpdH.refl⟩
    rw [show a.may = false by unfold TellR.may; simp only [Q, Bool.and_true, Bool.true_and, Bool.false_and, Bool.and_false, Bool.not_true, Bool.not_false]]; rfl
  · (repeat refine W_seq ?_); refine W_regionD [] [2, 7, 8, 14, 20] [0, 1, 2, 3, 4, 5, 6, 7, 8, 9, 10, 11, 12, 13, 14, 15, 16, 17, 18, 19, 20, 21, 22] [0, 1, 3, 7, 15, 31, 31, 95, 255, 511, 1023, 2047, 4095, 8191, 16383, 32767, 65535, 131071, 262143, 524287, 1048575, 2097151, 4194303] mixedM (by kernel_rfl) (by kernel_rfl) (by kernel_rfl) ?_
    simp only [listed, go_sem, Q, tk0, Bool.and_true, Bool.true_and, Bool.false_and, Bool.and_false, Bool.not_true, Bool.not_false]
    refine AD_read (v := .ptr ⟨S.length + 1, 0, 0⟩) (fun M' => M'.get (S.length + 1) 0 = some (Block.row ⟨90, 18, TellR.cells a vn vd, false, false⟩)) rfl rfl (fun M' h => by show pureV (fieldAddrA Try.prog 90 (.ptr ⟨S.length + 1, 0, 0⟩) 0 M') M' = _; rw [wa0 h]; rfl) (gt0) ?_
    simp only [go_sem, Q, tk0, Bool.and_true, Bool.true_and, Bool.false_and, Bool.and_false, Bool.not_true, Bool.not_false]
    refine AD_read (v := .int .i64 a.ty) (fun M' => M'.get (S.length + 1) 0 = some (Block.row ⟨90, 18, TellR.cells a vn vd, false, false⟩)) rfl rfl (fun M' h => by show pureV (loadA Try.prog 3 (.ptr ⟨S.length + 1, 0, 0⟩) M') M' = _; rw [wl0 h]; rfl) (gt0) ?_
    simp only [go_sem, Q, tk0, Bool.and_true, Bool.true_and, Bool.false_and, Bool.and_false, Bool.not_true, Bool.not_false]
    refine AD_call rfl rfl rfl (kind114) fun v M1 hd1 h1 => ?_
    obtain ⟨hv, hM⟩ := h1; subst hv; subst hM
    refine ⟨⟨fun _ => gt0, fun _ => gt0, trivial⟩, ?_⟩
    simp only [go_sem, Q, tk0, Bool.and_true, Bool.true_and, Bool.false_and, Bool.and_false, Bool.not_true, Bool.not_false]
    refine AD_read (v := .agg (a.cells vn vd)) (fun M' => M'.get (S.length + 1) 0 = some (Block.row ⟨90, 18, TellR.cells a vn vd, false, false⟩)) rfl rfl (fun M' h => by show pureV (loadA Try.prog 90 (.ptr ⟨S.length + 1, 0, 0⟩) M') M' = _; rw [wL h]; rfl) (gt0) ?_
    simp only [go_sem, Q, tk0, Bool.and_true, Bool.true_and, Bool.false_and, Bool.and_false, Bool.not_true, Bool.not_false]
    refine AD_read (v := .agg (a.cells vn vd)) (fun M' => M'.get (S.length + 1) 0 = some (Block.row ⟨90, 18, TellR.cells a vn vd, false, false⟩)) rfl rfl (fun M' h => by show pureV (loadA Try.prog 90 (.ptr ⟨S.length + 1, 0, 0⟩) M') M' = _; rw [wL h]; rfl) (gt0) ?_
    simp only [go_sem, Q, tk0, Bool.and_true, Bool.true_and, Bool.false_and, Bool.and_false, Bool.not_true, Bool.not_false]
    refine AD_call rfl rfl rfl (own115 hn hd) fun v M1 hd1 h1 => ?_
    obtain ⟨hv, hM⟩ := h1; subst hv; subst hM
    refine ⟨⟨fun _ => gt0, fun _ => gt0, fun _ => gt0, fun _ => gt0, trivial⟩, ?_⟩
    simp only [go_sem, Q, tk0, Bool.and_true, Bool.true_and, Bool.false_and, Bool.and_false, Bool.not_true, Bool.not_false]
    refine AD_call rfl rfl rfl (same68 hx hx2 (by omega)) fun v M1 hd1 h1 => ?_
    obtain ⟨hv, hM⟩ := h1; subst hv; subst hM
    refine ⟨⟨fun _ => gt0, fun _ => gt0, fun _ => gt0, fun _ => gt0, trivial⟩, ?_⟩
    simp only [go_sem, Q, tk0, Bool.and_true, Bool.true_and, Bool.false_and, Bool.and_false, Bool.not_true, Bool.not_false]
    refine AD_read (v := .ptr ⟨S.length + 1, 0, 1⟩) (fun M' => M'.get (S.length + 1) 0 = some (Block.row ⟨90, 18, TellR.cells a vn vd, false, false⟩)) rfl rfl (fun M' h => by show pureV (fieldAddrA Try.prog 90 (.ptr ⟨S.length + 1, 0, 0⟩) 1 M') M' = _; rw [wa1 h]; rfl) (gt0) ?_
    simp only [go_sem, Q, tk0, Bool.and_true, Bool.true_and, Bool.false_and, Bool.and_false, Bool.not_true, Bool.not_false]
    refine AD_read (v := .int .i64 a.tag) (fun M' => M'.get (S.length + 1) 0 = some (Block.row ⟨90, 18, TellR.cells a vn vd, false, false⟩)) rfl rfl (fun M' h => by show pureV (loadA Try.prog 3 (.ptr ⟨S.length + 1, 0, 1⟩) M') M' = _; rw [wl1 h]; rfl) (gt0) ?_
    simp only [go_sem, Q, tk0, Bool.and_true, Bool.true_and, Bool.false_and, Bool.and_false, Bool.not_true, Bool.not_false]
    refine AD_call rfl rfl rfl (in116) fun v M1 hd1 h1 => ?_
    obtain ⟨hv, hM⟩ := h1; subst hv; subst hM
    refine ⟨⟨fun _ => gt0, fun _ => gt0, fun _ => gt0, fun _ => gt0, fun _ => gt0, fun _ => gt0, trivial⟩, ?_⟩
    simp only [go_sem, Q, tk0, Bool.and_true, Bool.true_and, Bool.false_and, Bool.and_false, Bool.not_true, Bool.not_false]
    refine AD_read (v := .ptr ⟨S.length + 1, 0, 2⟩) (fun M' => M'.get (S.length + 1) 0 = some (Block.row ⟨90, 18, TellR.cells a vn vd, false, false⟩)) rfl rfl (fun M' h => by show pureV (fieldAddrA Try.prog 90 (.ptr ⟨S.length + 1, 0, 0⟩) 2 M') M' = _; rw [wa2 h]; rfl) (gt0) ?_
    simp only [go_sem, Q, tk0, Bool.and_true, Bool.true_and, Bool.false_and, Bool.and_false, Bool.not_true, Bool.not_false]
    refine AD_read (v := .int .i64 a.code) (fun M' => M'.get (S.length + 1) 0 = some (Block.row ⟨90, 18, TellR.cells a vn vd, false, false⟩)) rfl rfl (fun M' h => by show pureV (loadA Try.prog 3 (.ptr ⟨S.length + 1, 0, 2⟩) M') M' = _; rw [wl2 h]; rfl) (gt0) ?_
    simp only [go_sem, Q, tk0, Bool.and_true, Bool.true_and, Bool.false_and, Bool.and_false, Bool.not_true, Bool.not_false]
    refine AD_call rfl rfl rfl (in116) fun v M1 hd1 h1 => ?_
    obtain ⟨hv, hM⟩ := h1; subst hv; subst hM
    refine ⟨⟨fun _ => gt0, fun _ => gt0, fun _ => gt0, fun _ => gt0, fun _ => gt0, fun _ => gt0, fun _ => gt0, fun _ => gt0, trivial⟩, ?_⟩
    simp only [go_sem, Q, tk0, Bool.and_true, Bool.true_and, Bool.false_and, Bool.and_false, Bool.not_true, Bool.not_false]
    have QH := Q
    (repeat refine W_seq ?_)
    refine W_cond (b := true) rfl ?_
    simp only [if_true]
    (repeat refine W_seq ?_); refine W_regionT [] ?_
    simp only [go_sem]
    refine W_ret ⟨.inr rfl, _, rfl, rfl, ?_, _, rfl, UpdH.refl⟩
    rw [show a.may = false by unfold TellR.may; simp only [Q, Bool.and_true, Bool.true_and, Bool.false_and, Bool.and_false, Bool.not_true, Bool.not_false]]; rfl
  · (repeat refine W_seq ?_); refine W_regionD [] [2, 7, 8, 14, 20] [0, 1, 2, 3, 4, 5, 6, 7, 8, 9, 10, 11, 12, 13, 14, 15, 16, 17, 18, 19, 20, 21, 22] [0, 1, 3, 7, 15, 31, 31, 95, 255, 511, 1023, 2047, 4095, 8191, 16383, 32767, 65535, 131071, 262143, 524287, 1048575, 2097151, 4194303] mixedM (by kernel_rfl) (by kernel_rfl) (by kernel_rfl) ?_
    simp only [listed, go_sem, Q, tk0, Bool.and_true, Bool.true_and, Bool.false_and, Bool.and_false, Bool.not_true, Bool.not_false]
    refine AD_read (v := .ptr ⟨S.length + 1, 0, 0⟩) (fun M' => M'.get (S.length + 1) 0 = some (Block.row ⟨90, 18, TellR.cells a vn vd, false, false⟩)) rfl rfl (fun M' h => by show pureV (fieldAddrA Try.prog 90 (.ptr ⟨S.length + 1, 0, 0⟩) 0 M') M' = _; rw [wa0 h]; rfl) (gt0) ?_
    simp only [go_sem, Q, tk0, Bool.and_true, Bool.true_and, Bool.false_and, Bool.and_false, Bool.not_true, Bool.not_false]
    refine AD_read (v := .int .i64 a.ty) (fun M' => M'.get (S.length + 1) 0 = some (Block.row ⟨90, 18, TellR.cells a vn vd, false, false⟩)) rfl rfl (fun M' h => by show pureV (loadA Try.prog 3 (.ptr ⟨S.length + 1, 0, 0⟩) M') M' = _; rw [wl0 h]; rfl) (gt0) ?_
    simp only [go_sem, Q, tk0, Bool.and_true, Bool.true_and, Bool.false_and, Bool.and_false, Bool.not_true, Bool.not_false]
    refine AD_call rfl rfl rfl (kind114) fun v M1 hd1 h1 => ?_
    obtain ⟨hv, hM⟩ := h1; subst hv; subst hM
    refine ⟨⟨fun _ => gt0, fun _ => gt0, trivial⟩, ?_⟩
    simp only [go_sem, Q, tk0, Bool.and_true, Bool.true_and, Bool.false_and, Bool.and_false, Bool.not_true, Bool.not_false]
    refine AD_read (v := .agg (a.cells vn vd)) (fun M' => M'.get (S.length + 1) 0 = some (Block.row ⟨90, 18, TellR.cells a vn vd, false, false⟩)) rfl rfl (fun M' h => by show pureV (loadA Try.prog 90 (.ptr ⟨S.length + 1, 0, 0⟩) M') M' = _; rw [wL h]; rfl) (gt0) ?_
    simp only [go_sem, Q, tk0, Bool.and_true, Bool.true_and, Bool.false_and, Bool.and_false, Bool.not_true, Bool.not_false]
    refine AD_read (v := .agg (a.cells vn vd)) (fun M' => M'.get (S.length + 1) 0 = some (Block.row ⟨90, 18, TellR.cells a vn vd, false, false⟩)) rfl rfl (fun M' h => by show pureV (loadA Try.prog 90 (.ptr ⟨S.length + 1, 0, 0⟩) M') M' = _; rw [wL h]; rfl) (gt0) ?_
    simp only [go_sem, Q, tk0, Bool.and_true, Bool.true_and, Bool.false_and, Bool.and_false, Bool.not_true, Bool.not_false]
    refine AD_call rfl rfl rfl (own115 hn hd) fun v M1 hd1 h1 => ?_
    obtain ⟨hv, hM⟩ := h1; subst hv; subst hM
    refine ⟨⟨fun _ => gt0, fun _ => gt0, fun _ => gt0, fun _ => gt0, trivial⟩, ?_⟩
    simp only [go_sem, Q, tk0, Bool.and_true, Bool.true_and, Bool.false_and, Bool.and_false, Bool.not_true, Bool.not_false]
    refine AD_call rfl rfl rfl (same68 hx hx2 (by omega)) fun v M1 hd1 h1 => ?_
    obtain ⟨hv, hM⟩ := h1; subst hv; subst hM
    refine ⟨⟨fun _ => gt0, fun _ => gt0, fun _ => gt0, fun _ => gt0, trivial⟩, ?_⟩
    simp only [go_sem, Q, tk0, Bool.and_true, Bool.true_and, Bool.false_and, Bool.and_false, Bool.not_true, Bool.not_false]
    refine AD_read (v := .ptr ⟨S.length + 1, 0, 1⟩) (fun M' => M'.get (S.length + 1) 0 = some (Block.row ⟨90, 18, TellR.cells a vn vd, false, false⟩)) rfl rfl (fun M' h => by show pureV (fieldAddrA Try.prog 90 (.ptr ⟨S.length + 1, 0, 0⟩) 1 M') M' = _; rw [wa1 h]; rfl) (gt0) ?_
    simp only [go_sem, Q, tk0, Bool.and_true, Bool.true_and, Bool.false_and, Bool.and_false, Bool.not_true, Bool.not_false]
    refine AD_read (v := .int .i64 a.tag) (fun M' => M'.get (S.length + 1) 0 = some (Block.row ⟨90, 18, TellR.cells a vn vd, false, false⟩)) rfl rfl (fun M' h => by show pureV (loadA Try.prog 3 (.ptr ⟨S.length + 1, 0, 1⟩) M') M' = _; rw [wl1 h]; rfl) (gt0) ?_
    simp only [go_sem, Q, tk0, Bool.and_true, Bool.true_and, Bool.false_and, Bool.and_false, Bool.not_true, Bool.not_false]
    refine AD_call rfl rfl rfl (in116) fun v M1 hd1 h1 => ?_
    obtain ⟨hv, hM⟩ := h1; subst hv; subst hM
    refine ⟨⟨fun _ => gt0, fun _ => gt0, fun _ => gt0, fun _ => gt0, fun _ => gt0, fun _ => gt0, trivial⟩, ?_⟩
    simp only [go_sem, Q, tk0, Bool.and_true, Bool.true_and, Bool.false_and, Bool.and_false, Bool.not_true, Bool.not_false]
    refine AD_read (v := .ptr ⟨S.length + 1, 0, 2⟩) (fun M' => M'.get (S.length + 1) 0 = some (Block.row ⟨90, 18, TellR.cells a vn vd, false, false⟩)) rfl rfl (fun M' h => by show pureV (fieldAddrA Try.prog 90 (.ptr ⟨S.length + 1, 0, 0⟩) 2 M') M' = _; rw [wa2 h]; rfl) (gt0) ?_
    simp only [go_sem, Q, tk0, Bool.and_true, Bool.true_and, Bool.false_and, Bool.and_false, Bool.not_true, Bool.not_false]
    refine AD_read (v := .int .i64 a.code) (fun M' => M'.get (S.length + 1) 0 = some (Block.row ⟨90, 18, TellR.cells a vn vd, false, false⟩)) rfl rfl (fun M' h => by show pureV (loadA Try.prog 3 (.ptr ⟨S.length + 1, 0, 2⟩) M') M' = _; rw [wl2 h]; rfl) (gt0) ?_
    simp only [go_sem, Q, tk0, Bool.and_true, Bool.true_and, Bool.false_and, Bool.and_false, Bool.not_true, Bool.not_false]
    refine AD_call rfl rfl rfl (in116) fun v M1 hd1 h1 => ?_
    obtain ⟨hv, hM⟩ := h1; subst hv; subst hM
    refine ⟨⟨fun _ => gt0, fun _ => gt0, fun _ => gt0, fun _ => gt0, fun _ => gt0, fun _ => gt0, fun _ => gt0, fun _ => gt0, trivial⟩, ?_⟩
    simp only [go_sem, Q, tk0, Bool.and_true, Bool.true_and, Bool.false_and, Bool.and_false, Bool.not_true, Bool.not_false]
    have QH := Q
    (repeat refine W_seq ?_)
    refine W_cond (b := false) rfl ?_
    simp only [Bool.false_eq_true, if_false]
    refine W_skip ?_
    simp only [go_sem]
    obtain ⟨va, Ga, hap, qla, ua⟩ := q_cons (S := [Block.row ⟨90, 18, TellR.cells a vn vd, false, false⟩] :: S) (q := a.q) (r := a.s.q) hn (by omega)
    (repeat refine W_seq ?_); refine W_regionT [32, 35] ?_
    simp only [go_sem, two86, hap, wa0_0, wa1_0, wa2_0, wa3_0, wa4_0, wa5_0, wa6_0, wa7_0, wa8_0, wa9_0, wa10_0, wa88_12_0, wa88_15_0, wa88_16_0, wa88_17_0, wa85_7_0, wa85_8_0, wa85_9_0, wa85_13_0, wa85_14_0, wl0_0, wl1_0, wl2_0, wl3_0, wl4_0, wl5_0, wl6_0, wl7_0, wl8_0, wl9_0, wl10_0, wl11_0, wl12_0, wl13_0, wl14_0, wl15_0, wl16_0, wl17_0, wl7g85_0, wl12g85_0, wl12g88_0, wL_0]
    refine AT_call rfl rfl (contains117 qla (by simp; omega)) fun v M1 hd1 h1 => ?_
    obtain ⟨hv, hM⟩ := h1; subst hv; subst hM
    obtain ⟨ok, hok⟩ : ∃ ok, ((a.q :: a.s.q :: a.qids).any fun q => !q.ok) = !ok := ⟨!_, (Bool.not_not _).symm⟩
    simp only [go_sem]
    rcases ff5 (ok) (decide ((a.qids.length : Int) ≤ 8)) (decide ((a.data.length : Int) ≤ 1024)) (decide ((a.name.length : Int) ≤ 255)) (decide ((a.s.name.length : Int) ≤ 255)) with Q | Q | Q | Q | Q | Q
    · (repeat refine W_seq ?_); refine W_regionT [] ?_
      simp (maxSteps := 1000000) only [go_sem, Q, hok, dlt, len9, (hn.new ua).len, (hd.new ua).len, wa0_0, wa1_0, wa2_0, wa3_0, wa4_0, wa5_0, wa6_0, wa7_0, wa8_0, wa9_0, wa10_0, wa88_12_0, wa88_15_0, wa88_16_0, wa88_17_0, wa85_7_0, wa85_8_0, wa85_9_0, wa85_13_0, wa85_14_0, wl0_0, wl1_0, wl2_0, wl3_0, wl4_0, wl5_0, wl6_0, wl7_0, wl8_0, wl9_0, wl10_0, wl11_0, wl12_0, wl13_0, wl14_0, wl15_0, wl16_0, wl17_0, wl7g85_0, wl12g85_0, wl12g88_0, wL_0, Bool.and_true, Bool.true_and, Bool.false_and, Bool.and_false, Bool.not_true, Bool.not_false]
      have QM := Q
      (repeat refine W_seq ?_)
      refine W_cond (b := true) rfl ?_
      simp only [if_true]
      (repeat refine W_seq ?_); refine W_regionT [] ?_
      simp only [go_sem]
      refine W_ret ⟨.inr rfl, _, rfl, rfl, ?_, _, rfl, ua⟩
      rw [show a.may = false by unfold TellR.may; simp only [QH, hok, Q, Bool.and_true, Bool.true_and, Bool.false_and, Bool.and_false, Bool.not_true, Bool.not_false]]; rfl
    · (repeat refine W_seq ?_); refine W_regionT [] ?_
      simp (maxSteps := 1000000) only [go_sem, Q, hok, dlt, len9, (hn.new ua).len, (hd.new ua).len, wa0_0, wa1_0, wa2_0, wa3_0, wa4_0, wa5_0, wa6_0, wa7_0, wa8_0, wa9_0, wa10_0, wa88_12_0, wa88_15_0, wa88_16_0, wa88_17_0, wa85_7_0, wa85_8_0, wa85_9_0, wa85_13_0, wa85_14_0, wl0_0, wl1_0, wl2_0, wl3_0, wl4_0, wl5_0, wl6_0, wl7_0, wl8_0, wl9_0, wl10_0, wl11_0, wl12_0, wl13_0, wl14_0, wl15_0, wl16_0, wl17_0, wl7g85_0, wl12g85_0, wl12g88_0, wL_0, Bool.and_true, Bool.true_and, Bool.false_and, Bool.and_false, Bool.not_true, Bool.not_false]
      have QM := Q
      (repeat refine W_seq ?_)
      refine W_cond (b := true) rfl ?_
      simp only [if_true]
      (repeat refine W_seq ?_); refine W_regionT [] ?_
      simp only [go_sem]
      refine W_ret ⟨.inr rfl, _, rfl, rfl, ?_, _, rfl, ua⟩
      rw [show a.may = false by unfold TellR.may; simp only [QH, hok, Q, Bool.and_true, Bool.true_and, Bool.false_and, Bool.and_false, Bool.not_true, Bool.not_false]]; rfl
    · (repeat refine W_seq ?_); refine W_regionT [] ?_
      simp (maxSteps := 1000000) only [go_sem, Q, hok, dlt, len9, (hn.new ua).len, (hd.new ua).len, wa0_0, wa1_0, wa2_0, wa3_0, wa4_0, wa5_0, wa6_0, wa7_0, wa8_0, wa9_0, wa10_0, wa88_12_0, wa88_15_0, wa88_16_0, wa88_17_0, wa85_7_0, wa85_8_0, wa85_9_0, wa85_13_0, wa85_14_0, wl0_0, wl1_0, wl2_0, wl3_0, wl4_0, wl5_0, wl6_0, wl7_0, wl8_0, wl9_0, wl10_0, wl11_0, wl12_0, wl13_0, wl14_0, wl15_0, wl16_0, wl17_0, wl7g85_0, wl12g85_0, wl12g88_0, wL_0, Bool.and_true, Bool.true_and, Bool.false_and, Bool.and_false, Bool.not_true, Bool.not_false]
      have QM := Q
      (repeat refine W_seq ?_)
      refine W_cond (b := true) rfl ?_
      simp only [if_true]
      (repeat refine W_seq ?_); refine W_regionT [] ?_
      simp only [go_sem]
      refine W_ret ⟨.inr rfl, _, rfl, rfl, ?_, _, rfl, ua⟩
      rw [show a.may = false by unfold TellR.may; simp only [QH, hok, Q, Bool.and_true, Bool.true_and, Bool.false_and, Bool.and_false, Bool.not_true, Bool.not_false]]; rfl
    · (repeat refine W_seq ?_); refine W_regionT [] ?_
      simp (maxSteps := 1000000) only [go_sem, Q, hok, dlt, len9, (hn.new ua).len, (hd.new ua).len, wa0_0, wa1_0, wa2_0, wa3_0, wa4_0, wa5_0, wa6_0, wa7_0, wa8_0, wa9_0, wa10_0, wa88_12_0, wa88_15_0, wa88_16_0, wa88_17_0, wa85_7_0, wa85_8_0, wa85_9_0, wa85_13_0, wa85_14_0, wl0_0, wl1_0, wl2_0, wl3_0, wl4_0, wl5_0, wl6_0, wl7_0, wl8_0, wl9_0, wl10_0, wl11_0, wl12_0, wl13_0, wl14_0, wl15_0, wl16_0, wl17_0, wl7g85_0, wl12g85_0, wl12g88_0, wL_0, Bool.and_true, Bool.true_and, Bool.false_and, Bool.and_false, Bool.not_true, Bool.not_false]
      have QM := Q
      (repeat refine W_seq ?_)
      refine W_cond (b := true) rfl ?_
      simp only [if_true]
      (repeat refine W_seq ?_); refine W_regionT [] ?_
      simp only [go_sem]
      refine W_ret ⟨.inr rfl, _, rfl, rfl, ?_, _, rfl, ua⟩
      rw [show a.may = false by unfold TellR.may; simp only [QH, hok, Q, Bool.and_true, Bool.true_and, Bool.false_and, Bool.and_false, Bool.not_true, Bool.not_false]]; rfl
    · (repeat refine W_seq ?_); refine W_regionT [] ?_
      simp (maxSteps := 1000000) only [go_sem, Q, hok, dlt, len9, (hn.new ua).len, (hd.new ua).len, wa0_0, wa1_0, wa2_0, wa3_0, wa4_0, wa5_0, wa6_0, wa7_0, wa8_0, wa9_0, wa10_0, wa88_12_0, wa88_15_0, wa88_16_0, wa88_17_0, wa85_7_0, wa85_8_0, wa85_9_0, wa85_13_0, wa85_14_0, wl0_0, wl1_0, wl2_0, wl3_0, wl4_0, wl5_0, wl6_0, wl7_0, wl8_0, wl9_0, wl10_0, wl11_0, wl12_0, wl13_0, wl14_0, wl15_0, wl16_0, wl17_0, wl7g85_0, wl12g85_0, wl12g88_0, wL_0, Bool.and_true, Bool.true_and, Bool.false_and, Bool.and_false, Bool.not_true, Bool.not_false]
      have QM := Q
      (repeat refine W_seq ?_)
      refine W_cond (b := true) rfl ?_
      simp only [if_true]
      (repeat refine W_seq ?_); refine W_regionT [] ?_
      simp only [go_sem]
      refine W_ret ⟨.inr rfl, _, rfl, rfl, ?_, _, rfl, ua⟩
      rw [show a.may = false by unfold TellR.may; simp only [QH, hok, Q, Bool.and_true, Bool.true_and, Bool.false_and, Bool.and_false, Bool.not_true, Bool.not_false]]; rfl
    · (repeat refine W_seq ?_); refine W_regionT [] ?_
      simp (maxSteps := 1000000) only [go_sem, Q, hok, dlt, len9, (hn.new ua).len, (hd.new ua).len, wa0_0, wa1_0, wa2_0, wa3_0, wa4_0, wa5_0, wa6_0, wa7_0, wa8_0, wa9_0, wa10_0, wa88_12_0, wa88_15_0, wa88_16_0, wa88_17_0, wa85_7_0, wa85_8_0, wa85_9_0, wa85_13_0, wa85_14_0, wl0_0, wl1_0, wl2_0, wl3_0, wl4_0, wl5_0, wl6_0, wl7_0, wl8_0, wl9_0, wl10_0, wl11_0, wl12_0, wl13_0, wl14_0, wl15_0, wl16_0, wl17_0, wl7g85_0, wl12g85_0, wl12g88_0, wL_0, Bool.and_true, Bool.true_and, Bool.false_and, Bool.and_false, Bool.not_true, Bool.not_false]
      have QM := Q
      (repeat refine W_seq ?_)
      refine W_cond (b := false) rfl ?_
      simp only [Bool.false_eq_true, if_false]
      refine W_skip ?_
      simp only [go_sem]
      rcases ff5 (inB a.msize 0 4294967295) (inB a.iounit 0 4294967295) (inB a.count 0 4294967295) (inB a.s.mode 0 4294967295) (inB a.s.size 0 4611686018427387904) with Q | Q | Q | Q | Q | Q
      · (repeat refine W_seq ?_); refine W_regionT [] ?_
        simp (maxSteps := 1000000) only [go_sem, Q, wa0_0, wa1_0, wa2_0, wa3_0, wa4_0, wa5_0, wa6_0, wa7_0, wa8_0, wa9_0, wa10_0, wa88_12_0, wa88_15_0, wa88_16_0, wa88_17_0, wa85_7_0, wa85_8_0, wa85_9_0, wa85_13_0, wa85_14_0, wl0_0, wl1_0, wl2_0, wl3_0, wl4_0, wl5_0, wl6_0, wl7_0, wl8_0, wl9_0, wl10_0, wl11_0, wl12_0, wl13_0, wl14_0, wl15_0, wl16_0, wl17_0, wl7g85_0, wl12g85_0, wl12g88_0, wL_0]
        refine AT_call rfl rfl (in116) fun v M1 hd1 h1 => ?_
        obtain ⟨hv, hM⟩ := h1; subst hv; subst hM
        simp (maxSteps := 1000000) only [go_sem, Q, wa0_0, wa1_0, wa2_0, wa3_0, wa4_0, wa5_0, wa6_0, wa7_0, wa8_0, wa9_0, wa10_0, wa88_12_0, wa88_15_0, wa88_16_0, wa88_17_0, wa85_7_0, wa85_8_0, wa85_9_0, wa85_13_0, wa85_14_0, wl0_0, wl1_0, wl2_0, wl3_0, wl4_0, wl5_0, wl6_0, wl7_0, wl8_0, wl9_0, wl10_0, wl11_0, wl12_0, wl13_0, wl14_0, wl15_0, wl16_0, wl17_0, wl7g85_0, wl12g85_0, wl12g88_0, wL_0]
        refine W_ret ⟨.inr rfl, _, rfl, rfl, ?_, _, rfl, ua⟩
        rw [show a.may = false by unfold TellR.may; simp only [QH, QM, hok, Q, Bool.and_true, Bool.true_and, Bool.false_and, Bool.and_false, Bool.not_true, Bool.not_false]]; rfl
      · (repeat refine W_seq ?_); refine W_regionT [] ?_
        simp (maxSteps := 1000000) only [go_sem, Q, wa0_0, wa1_0, wa2_0, wa3_0, wa4_0, wa5_0, wa6_0, wa7_0, wa8_0, wa9_0, wa10_0, wa88_12_0, wa88_15_0, wa88_16_0, wa88_17_0, wa85_7_0, wa85_8_0, wa85_9_0, wa85_13_0, wa85_14_0, wl0_0, wl1_0, wl2_0, wl3_0, wl4_0, wl5_0, wl6_0, wl7_0, wl8_0, wl9_0, wl10_0, wl11_0, wl12_0, wl13_0, wl14_0, wl15_0, wl16_0, wl17_0, wl7g85_0, wl12g85_0, wl12g88_0, wL_0]
        refine AT_call rfl rfl (in116) fun v M1 hd1 h1 => ?_
        obtain ⟨hv, hM⟩ := h1; subst hv; subst hM
        simp (maxSteps := 1000000) only [go_sem, Q, wa0_0, wa1_0, wa2_0, wa3_0, wa4_0, wa5_0, wa6_0, wa7_0, wa8_0, wa9_0, wa10_0, wa88_12_0, wa88_15_0, wa88_16_0, wa88_17_0, wa85_7_0, wa85_8_0, wa85_9_0, wa85_13_0, wa85_14_0, wl0_0, wl1_0, wl2_0, wl3_0, wl4_0, wl5_0, wl6_0, wl7_0, wl8_0, wl9_0, wl10_0, wl11_0, wl12_0, wl13_0, wl14_0, wl15_0, wl16_0, wl17_0, wl7g85_0, wl12g85_0, wl12g88_0, wL_0]
        refine AT_call rfl rfl (in116) fun v M1 hd1 h1 => ?_
        obtain ⟨hv, hM⟩ := h1; subst hv; subst hM
        simp (maxSteps := 1000000) only [go_sem, Q, wa0_0, wa1_0, wa2_0, wa3_0, wa4_0, wa5_0, wa6_0, wa7_0, wa8_0, wa9_0, wa10_0, wa88_12_0, wa88_15_0, wa88_16_0, wa88_17_0, wa85_7_0, wa85_8_0, wa85_9_0, wa85_13_0, wa85_14_0, wl0_0, wl1_0, wl2_0, wl3_0, wl4_0, wl5_0, wl6_0, wl7_0, wl8_0, wl9_0, wl10_0, wl11_0, wl12_0, wl13_0, wl14_0, wl15_0, wl16_0, wl17_0, wl7g85_0, wl12g85_0, wl12g88_0, wL_0]
        refine W_ret ⟨.inr rfl, _, rfl, rfl, ?_, _, rfl, ua⟩
        rw [show a.may = false by unfold TellR.may; simp only [QH, QM, hok, Q, Bool.and_true, Bool.true_and, Bool.false_and, Bool.and_false, Bool.not_true, Bool.not_false]]; rfl
      · (repeat refine W_seq ?_); refine W_regionT [] ?_
        simp (maxSteps := 1000000) only [go_sem, Q, wa0_0, wa1_0, wa2_0, wa3_0, wa4_0, wa5_0, wa6_0, wa7_0, wa8_0, wa9_0, wa10_0, wa88_12_0, wa88_15_0, wa88_16_0, wa88_17_0, wa85_7_0, wa85_8_0, wa85_9_0, wa85_13_0, wa85_14_0, wl0_0, wl1_0, wl2_0, wl3_0, wl4_0, wl5_0, wl6_0, wl7_0, wl8_0, wl9_0, wl10_0, wl11_0, wl12_0, wl13_0, wl14_0, wl15_0, wl16_0, wl17_0, wl7g85_0, wl12g85_0, wl12g88_0, wL_0]
        refine AT_call rfl rfl (in116) fun v M1 hd1 h1 => ?_
        obtain ⟨hv, hM⟩ := h1; subst hv; subst hM
        simp (maxSteps := 1000000) only [go_sem, Q, wa0_0, wa1_0, wa2_0, wa3_0, wa4_0, wa5_0, wa6_0, wa7_0, wa8_0, wa9_0, wa10_0, wa88_12_0, wa88_15_0, wa88_16_0, wa88_17_0, wa85_7_0, wa85_8_0, wa85_9_0, wa85_13_0, wa85_14_0, wl0_0, wl1_0, wl2_0, wl3_0, wl4_0, wl5_0, wl6_0, wl7_0, wl8_0, wl9_0, wl10_0, wl11_0, wl12_0, wl13_0, wl14_0, wl15_0, wl16_0, wl17_0, wl7g85_0, wl12g85_0, wl12g88_0, wL_0]
        refine AT_call rfl rfl (in116) fun v M1 hd1 h1 => ?_
        obtain ⟨hv, hM⟩ := h1; subst hv; subst hM
        simp (maxSteps := 1000000) only [go_sem, Q, wa0_0, wa1_0, wa2_0, wa3_0, wa4_0, wa5_0, wa6_0, wa7_0, wa8_0, wa9_0, wa10_0, wa88_12_0, wa88_15_0, wa88_16_0, wa88_17_0, wa85_7_0, wa85_8_0, wa85_9_0, wa85_13_0, wa85_14_0, wl0_0, wl1_0, wl2_0, wl3_0, wl4_0, wl5_0, wl6_0, wl7_0, wl8_0, wl9_0, wl10_0, wl11_0, wl12_0, wl13_0, wl14_0, wl15_0, wl16_0, wl17_0, wl7g85_0, wl12g85_0, wl12g88_0, wL_0]
        refine AT_call rfl rfl (in116) fun v M1 hd1 h1 => ?_
        obtain ⟨hv, hM⟩ := h1; subst hv; subst hM
        simp (maxSteps := 1000000) only [go_sem, Q, wa0_0, wa1_0, wa2_0, wa3_0, wa4_0, wa5_0, wa6_0, wa7_0, wa8_0, wa9_0, wa10_0, wa88_12_0, wa88_15_0, wa88_16_0, wa88_17_0, wa85_7_0, wa85_8_0, wa85_9_0, wa85_13_0, wa85_14_0, wl0_0, wl1_0, wl2_0, wl3_0, wl4_0, wl5_0, wl6_0, wl7_0, wl8_0, wl9_0, wl10_0, wl11_0, wl12_0, wl13_0, wl14_0, wl15_0, wl16_0, wl17_0, wl7g85_0, wl12g85_0, wl12g88_0, wL_0]
        refine W_ret ⟨.inr rfl, _, rfl, rfl, ?_, _, rfl, ua⟩
        rw [show a.may = false by unfold TellR.may; simp only [QH, QM, hok, Q, Bool.and_true, Bool.true_and, Bool.false_and, Bool.and_false, Bool.not_true, Bool.not_false]]; rfl
      · (repeat refine W_seq ?_); refine W_regionT [] ?_
        simp (maxSteps := 1000000) only [go_sem, Q, wa0_0, wa1_0, wa2_0, wa3_0, wa4_0, wa5_0, wa6_0, wa7_0, wa8_0, wa9_0, wa10_0, wa88_12_0, wa88_15_0, wa88_16_0, wa88_17_0, wa85_7_0, wa85_8_0, wa85_9_0, wa85_13_0, wa85_14_0, wl0_0, wl1_0, wl2_0, wl3_0, wl4_0, wl5_0, wl6_0, wl7_0, wl8_0, wl9_0, wl10_0, wl11_0, wl12_0, wl13_0, wl14_0, wl15_0, wl16_0, wl17_0, wl7g85_0, wl12g85_0, wl12g88_0, wL_0]
        refine AT_call rfl rfl (in116) fun v M1 hd1 h1 => ?_
        obtain ⟨hv, hM⟩ := h1; subst hv; subst hM
        simp (maxSteps := 1000000) only [go_sem, Q, wa0_0, wa1_0, wa2_0, wa3_0, wa4_0, wa5_0, wa6_0, wa7_0, wa8_0, wa9_0, wa10_0, wa88_12_0, wa88_15_0, wa88_16_0, wa88_17_0, wa85_7_0, wa85_8_0, wa85_9_0, wa85_13_0, wa85_14_0, wl0_0, wl1_0, wl2_0, wl3_0, wl4_0, wl5_0, wl6_0, wl7_0, wl8_0, wl9_0, wl10_0, wl11_0, wl12_0, wl13_0, wl14_0, wl15_0, wl16_0, wl17_0, wl7g85_0, wl12g85_0, wl12g88_0, wL_0]
        refine AT_call rfl rfl (in116) fun v M1 hd1 h1 => ?_
        obtain ⟨hv, hM⟩ := h1; subst hv; subst hM
        simp (maxSteps := 1000000) only [go_sem, Q, wa0_0, wa1_0, wa2_0, wa3_0, wa4_0, wa5_0, wa6_0, wa7_0, wa8_0, wa9_0, wa10_0, wa88_12_0, wa88_15_0, wa88_16_0, wa88_17_0, wa85_7_0, wa85_8_0, wa85_9_0, wa85_13_0, wa85_14_0, wl0_0, wl1_0, wl2_0, wl3_0, wl4_0, wl5_0, wl6_0, wl7_0, wl8_0, wl9_0, wl10_0, wl11_0, wl12_0, wl13_0, wl14_0, wl15_0, wl16_0, wl17_0, wl7g85_0, wl12g85_0, wl12g88_0, wL_0]
        refine AT_call rfl rfl (in116) fun v M1 hd1 h1 => ?_
        obtain ⟨hv, hM⟩ := h1; subst hv; subst hM
        simp (maxSteps := 1000000) only [go_sem, Q, wa0_0, wa1_0, wa2_0, wa3_0, wa4_0, wa5_0, wa6_0, wa7_0, wa8_0, wa9_0, wa10_0, wa88_12_0, wa88_15_0, wa88_16_0, wa88_17_0, wa85_7_0, wa85_8_0, wa85_9_0, wa85_13_0, wa85_14_0, wl0_0, wl1_0, wl2_0, wl3_0, wl4_0, wl5_0, wl6_0, wl7_0, wl8_0, wl9_0, wl10_0, wl11_0, wl12_0, wl13_0, wl14_0, wl15_0, wl16_0, wl17_0, wl7g85_0, wl12g85_0, wl12g88_0, wL_0]
        refine AT_call rfl rfl (in116) fun v M1 hd1 h1 => ?_
        obtain ⟨hv, hM⟩ := h1; subst hv; subst hM
        simp (maxSteps := 1000000) only [go_sem, Q, wa0_0, wa1_0, wa2_0, wa3_0, wa4_0, wa5_0, wa6_0, wa7_0, wa8_0, wa9_0, wa10_0, wa88_12_0, wa88_15_0, wa88_16_0, wa88_17_0, wa85_7_0, wa85_8_0, wa85_9_0, wa85_13_0, wa85_14_0, wl0_0, wl1_0, wl2_0, wl3_0, wl4_0, wl5_0, wl6_0, wl7_0, wl8_0, wl9_0, wl10_0, wl11_0, wl12_0, wl13_0, wl14_0, wl15_0, wl16_0, wl17_0, wl7g85_0, wl12g85_0, wl12g88_0, wL_0]
        refine W_ret ⟨.inr rfl, _, rfl, rfl, ?_, _, rfl, ua⟩
        rw [show a.may = false by unfold TellR.may; simp only [QH, QM, hok, Q, Bool.and_true, Bool.true_and, Bool.false_and, Bool.and_false, Bool.not_true, Bool.not_false]]; rfl
      · (repeat refine W_seq ?_); refine W_regionT [] ?_
        simp (maxSteps := 1000000) only [go_sem, Q, wa0_0, wa1_0, wa2_0, wa3_0, wa4_0, wa5_0, wa6_0, wa7_0, wa8_0, wa9_0, wa10_0, wa88_12_0, wa88_15_0, wa88_16_0, wa88_17_0, wa85_7_0, wa85_8_0, wa85_9_0, wa85_13_0, wa85_14_0, wl0_0, wl1_0, wl2_0, wl3_0, wl4_0, wl5_0, wl6_0, wl7_0, wl8_0, wl9_0, wl10_0, wl11_0, wl12_0, wl13_0, wl14_0, wl15_0, wl16_0, wl17_0, wl7g85_0, wl12g85_0, wl12g88_0, wL_0]
        refine AT_call rfl rfl (in116) fun v M1 hd1 h1 => ?_
        obtain ⟨hv, hM⟩ := h1; subst hv; subst hM
        simp (maxSteps := 1000000) only [go_sem, Q, wa0_0, wa1_0, wa2_0, wa3_0, wa4_0, wa5_0, wa6_0, wa7_0, wa8_0, wa9_0, wa10_0, wa88_12_0, wa88_15_0, wa88_16_0, wa88_17_0, wa85_7_0, wa85_8_0, wa85_9_0, wa85_13_0, wa85_14_0, wl0_0, wl1_0, wl2_0, wl3_0, wl4_0, wl5_0, wl6_0, wl7_0, wl8_0, wl9_0, wl10_0, wl11_0, wl12_0, wl13_0, wl14_0, wl15_0, wl16_0, wl17_0, wl7g85_0, wl12g85_0, wl12g88_0, wL_0]
        refine AT_call rfl rfl (in116) fun v M1 hd1 h1 => ?_
        obtain ⟨hv, hM⟩ := h1; subst hv; subst hM
        simp (maxSteps := 1000000) only [go_sem, Q, wa0_0, wa1_0, wa2_0, wa3_0, wa4_0, wa5_0, wa6_0, wa7_0, wa8_0, wa9_0, wa10_0, wa88_12_0, wa88_15_0, wa88_16_0, wa88_17_0, wa85_7_0, wa85_8_0, wa85_9_0, wa85_13_0, wa85_14_0, wl0_0, wl1_0, wl2_0, wl3_0, wl4_0, wl5_0, wl6_0, wl7_0, wl8_0, wl9_0, wl10_0, wl11_0, wl12_0, wl13_0, wl14_0, wl15_0, wl16_0, wl17_0, wl7g85_0, wl12g85_0, wl12g88_0, wL_0]
        refine AT_call rfl rfl (in116) fun v M1 hd1 h1 => ?_
        obtain ⟨hv, hM⟩ := h1; subst hv; subst hM
        simp (maxSteps := 1000000) only [go_sem, Q, wa0_0, wa1_0, wa2_0, wa3_0, wa4_0, wa5_0, wa6_0, wa7_0, wa8_0, wa9_0, wa10_0, wa88_12_0, wa88_15_0, wa88_16_0, wa88_17_0, wa85_7_0, wa85_8_0, wa85_9_0, wa85_13_0, wa85_14_0, wl0_0, wl1_0, wl2_0, wl3_0, wl4_0, wl5_0, wl6_0, wl7_0, wl8_0, wl9_0, wl10_0, wl11_0, wl12_0, wl13_0, wl14_0, wl15_0, wl16_0, wl17_0, wl7g85_0, wl12g85_0, wl12g88_0, wL_0]
        refine AT_call rfl rfl (in116) fun v M1 hd1 h1 => ?_
        obtain ⟨hv, hM⟩ := h1; subst hv; subst hM
        simp (maxSteps := 1000000) only [go_sem, Q, wa0_0, wa1_0, wa2_0, wa3_0, wa4_0, wa5_0, wa6_0, wa7_0, wa8_0, wa9_0, wa10_0, wa88_12_0, wa88_15_0, wa88_16_0, wa88_17_0, wa85_7_0, wa85_8_0, wa85_9_0, wa85_13_0, wa85_14_0, wl0_0, wl1_0, wl2_0, wl3_0, wl4_0, wl5_0, wl6_0, wl7_0, wl8_0, wl9_0, wl10_0, wl11_0, wl12_0, wl13_0, wl14_0, wl15_0, wl16_0, wl17_0, wl7g85_0, wl12g85_0, wl12g88_0, wL_0]
        refine AT_call rfl rfl (in116) fun v M1 hd1 h1 => ?_
        obtain ⟨hv, hM⟩ := h1; subst hv; subst hM
        simp (maxSteps := 1000000) only [go_sem, Q, wa0_0, wa1_0, wa2_0, wa3_0, wa4_0, wa5_0, wa6_0, wa7_0, wa8_0, wa9_0, wa10_0, wa88_12_0, wa88_15_0, wa88_16_0, wa88_17_0, wa85_7_0, wa85_8_0, wa85_9_0, wa85_13_0, wa85_14_0, wl0_0, wl1_0, wl2_0, wl3_0, wl4_0, wl5_0, wl6_0, wl7_0, wl8_0, wl9_0, wl10_0, wl11_0, wl12_0, wl13_0, wl14_0, wl15_0, wl16_0, wl17_0, wl7g85_0, wl12g85_0, wl12g88_0, wL_0]
        refine W_ret ⟨.inr rfl, _, rfl, rfl, ?_, _, rfl, ua⟩
        rw [show a.may = false by unfold TellR.may; simp only [QH, QM, hok, Q, Bool.and_true, Bool.true_and, Bool.false_and, Bool.and_false, Bool.not_true, Bool.not_false]]; rfl
      · (repeat refine W_seq ?_); refine W_regionT [] ?_
        simp (maxSteps := 1000000) only [go_sem, Q, wa0_0, wa1_0, wa2_0, wa3_0, wa4_0, wa5_0, wa6_0, wa7_0, wa8_0, wa9_0, wa10_0, wa88_12_0, wa88_15_0, wa88_16_0, wa88_17_0, wa85_7_0, wa85_8_0, wa85_9_0, wa85_13_0, wa85_14_0, wl0_0, wl1_0, wl2_0, wl3_0, wl4_0, wl5_0, wl6_0, wl7_0, wl8_0, wl9_0, wl10_0, wl11_0, wl12_0, wl13_0, wl14_0, wl15_0, wl16_0, wl17_0, wl7g85_0, wl12g85_0, wl12g88_0, wL_0]
        refine AT_call rfl rfl (in116) fun v M1 hd1 h1 => ?_
        obtain ⟨hv, hM⟩ := h1; subst hv; subst hM
        simp (maxSteps := 1000000) only [go_sem, Q, wa0_0, wa1_0, wa2_0, wa3_0, wa4_0, wa5_0, wa6_0, wa7_0, wa8_0, wa9_0, wa10_0, wa88_12_0, wa88_15_0, wa88_16_0, wa88_17_0, wa85_7_0, wa85_8_0, wa85_9_0, wa85_13_0, wa85_14_0, wl0_0, wl1_0, wl2_0, wl3_0, wl4_0, wl5_0, wl6_0, wl7_0, wl8_0, wl9_0, wl10_0, wl11_0, wl12_0, wl13_0, wl14_0, wl15_0, wl16_0, wl17_0, wl7g85_0, wl12g85_0, wl12g88_0, wL_0]
        refine AT_call rfl rfl (in116) fun v M1 hd1 h1 => ?_
        obtain ⟨hv, hM⟩ := h1; subst hv; subst hM
        simp (maxSteps := 1000000) only [go_sem, Q, wa0_0, wa1_0, wa2_0, wa3_0, wa4_0, wa5_0, wa6_0, wa7_0, wa8_0, wa9_0, wa10_0, wa88_12_0, wa88_15_0, wa88_16_0, wa88_17_0, wa85_7_0, wa85_8_0, wa85_9_0, wa85_13_0, wa85_14_0, wl0_0, wl1_0, wl2_0, wl3_0, wl4_0, wl5_0, wl6_0, wl7_0, wl8_0, wl9_0, wl10_0, wl11_0, wl12_0, wl13_0, wl14_0, wl15_0, wl16_0, wl17_0, wl7g85_0, wl12g85_0, wl12g88_0, wL_0]
        refine AT_call rfl rfl (in116) fun v M1 hd1 h1 => ?_
        obtain ⟨hv, hM⟩ := h1; subst hv; subst hM
        simp (maxSteps := 1000000) only [go_sem, Q, wa0_0, wa1_0, wa2_0, wa3_0, wa4_0, wa5_0, wa6_0, wa7_0, wa8_0, wa9_0, wa10_0, wa88_12_0, wa88_15_0, wa88_16_0, wa88_17_0, wa85_7_0, wa85_8_0, wa85_9_0, wa85_13_0, wa85_14_0, wl0_0, wl1_0, wl2_0, wl3_0, wl4_0, wl5_0, wl6_0, wl7_0, wl8_0, wl9_0, wl10_0, wl11_0, wl12_0, wl13_0, wl14_0, wl15_0, wl16_0, wl17_0, wl7g85_0, wl12g85_0, wl12g88_0, wL_0]
        refine AT_call rfl rfl (in116) fun v M1 hd1 h1 => ?_
        obtain ⟨hv, hM⟩ := h1; subst hv; subst hM
        simp (maxSteps := 1000000) only [go_sem, Q, wa0_0, wa1_0, wa2_0, wa3_0, wa4_0, wa5_0, wa6_0, wa7_0, wa8_0, wa9_0, wa10_0, wa88_12_0, wa88_15_0, wa88_16_0, wa88_17_0, wa85_7_0, wa85_8_0, wa85_9_0, wa85_13_0, wa85_14_0, wl0_0, wl1_0, wl2_0, wl3_0, wl4_0, wl5_0, wl6_0, wl7_0, wl8_0, wl9_0, wl10_0, wl11_0, wl12_0, wl13_0, wl14_0, wl15_0, wl16_0, wl17_0, wl7g85_0, wl12g85_0, wl12g88_0, wL_0]
        refine AT_call rfl rfl (in116) fun v M1 hd1 h1 => ?_
        obtain ⟨hv, hM⟩ := h1; subst hv; subst hM
        simp (maxSteps := 1000000) only [go_sem, Q, wa0_0, wa1_0, wa2_0, wa3_0, wa4_0, wa5_0, wa6_0, wa7_0, wa8_0, wa9_0, wa10_0, wa88_12_0, wa88_15_0, wa88_16_0, wa88_17_0, wa85_7_0, wa85_8_0, wa85_9_0, wa85_13_0, wa85_14_0, wl0_0, wl1_0, wl2_0, wl3_0, wl4_0, wl5_0, wl6_0, wl7_0, wl8_0, wl9_0, wl10_0, wl11_0, wl12_0, wl13_0, wl14_0, wl15_0, wl16_0, wl17_0, wl7g85_0, wl12g85_0, wl12g88_0, wL_0]
        refine W_ret ⟨.inr rfl, _, rfl, rfl, ?_, _, rfl, ua⟩
        rw [show a.may = true by unfold TellR.may; simp only [QH, QM, hok, Q, Bool.and_true, Bool.true_and, Bool.false_and, Bool.and_false, Bool.not_true, Bool.not_false]]; rfl
theorem bit128 {d : Bool} : (AV.int .u8 (if d then 128 else 0)) = .int .u8 (((if d then 128 else 0 : Nat)) : Int) := by cases d <;> rfl
theorem putQid142 {q : QidR} (h : BH H b l) (hl : l.length < 900000) : AC Try.prog 142 [b, .agg q.cells] ⟨H, S⟩ (NewB H S (l ++ q.bytes)) := by
  refine AC_of_WE Try.func142 rfl ?_
  simp only [Try.ntmps142, List.length_cons, List.length_nil, List.replicate, List.cons_append, List.nil_append, mem_enter]
  (repeat refine W_seq ?_); refine W_regionT [] ?_
  simp only [go_sem, yboxL (qcells_st q), List.nil_append, List.cons_append, List.length_nil, List.length_cons, Nat.zero_add, Nat.reduceAdd]
  (repeat refine W_seq ?_); refine W_regionT [] ?_
  simp only [go_sem]
  (repeat refine W_seq ?_); refine W_regionT [] ?_
  simp only [go_sem, ya0_0, ya1_0, ya2_0, yl0_0, yl1_0, yl2_0, yL_0]
  (repeat refine W_seq ?_)
  refine W_cond_if rfl (fun hb => ?_) (fun hb => ?_)
  · (repeat refine W_seq ?_); refine W_regionT [] ?_
    simp only [go_sem]
    (repeat refine W_seq ?_); refine W_regionD [] [2, 6, 10] [0, 1, 3, 4, 5, 7, 8, 9, 2, 6, 10, 11] [0, 0, 3, 0, 8, 24, 63, 0, 128, 384, 1023, 2047] mixedM (by kernel_rfl) (by kernel_rfl) (by kernel_rfl) ?_
    simp only [listed, go_sem]
    refine AD_read (v := .ptr ⟨S.length + 1, 0, 1⟩) (fun M' => M'.get (S.length + 1) 0 = some (Block.row ⟨85, 3, QidR.cells q, false, false⟩)) rfl rfl (fun M' h => by show pureV (fieldAddrA Try.prog 85 (.ptr ⟨S.length + 1, 0, 0⟩) 1 M') M' = _; rw [ya1 h]; rfl) (gt0) ?_
    simp only [go_sem]
    refine AD_read (v := .int .i64 q.ver) (fun M' => M'.get (S.length + 1) 0 = some (Block.row ⟨85, 3, QidR.cells q, false, false⟩)) rfl rfl (fun M' h => by show pureV (loadA Try.prog 3 (.ptr ⟨S.length + 1, 0, 1⟩) M') M' = _; rw [yl1 h]; rfl) (gt0) ?_
    simp only [go_sem]
    refine AD_convI rfl rfl ti3 ti29 rfl ?_
    simp only [go_sem]
    refine AD_read (v := .ptr ⟨S.length + 1, 0, 2⟩) (fun M' => M'.get (S.length + 1) 0 = some (Block.row ⟨85, 3, QidR.cells q, false, false⟩)) rfl rfl (fun M' h => by show pureV (fieldAddrA Try.prog 85 (.ptr ⟨S.length + 1, 0, 0⟩) 2 M') M' = _; rw [ya2 h]; rfl) (gt0) ?_
    simp only [go_sem]
    refine AD_read (v := .int .i64 q.path) (fun M' => M'.get (S.length + 1) 0 = some (Block.row ⟨85, 3, QidR.cells q, false, false⟩)) rfl rfl (fun M' h => by show pureV (loadA Try.prog 3 (.ptr ⟨S.length + 1, 0, 2⟩) M') M' = _; rw [yl2 h]; rfl) (gt0) ?_
    simp only [go_sem]
    refine AD_convI rfl rfl ti3 ti23 rfl ?_
    simp only [go_sem]
    refine AD_call rfl rfl rfl (give (u21 (n := 128) h.rb (by omega) (by decide))) fun v M1 hd1 h1 => ?_
    obtain ⟨G1, rfl, u1, b1, l1⟩ := h1
    refine ⟨⟨fun _ => gt0, fun _ => gt0, fun _ => gt0, fun _ => gt0, trivial⟩, ?_⟩
    simp only [go_sem]
    refine AD_call rfl rfl rfl (u32B b1 (by simp only [List.length_append, le_length]; omega)) fun v M1 hd1 h1 => ?_
    obtain ⟨G2, rfl, u2, b2, l2⟩ := h1
    refine ⟨⟨fun _ => gt0, fun _ => gt0, fun _ => gt0, fun _ => gt0, trivial⟩, ?_⟩
    simp only [go_sem]
    refine AD_call rfl rfl rfl (u64B b2 (by simp only [List.length_append, le_length]; omega)) fun v M1 hd1 h1 => ?_
    obtain ⟨G3, rfl, u3, b3, l3⟩ := h1
    refine ⟨⟨fun _ => gt0, fun _ => gt0, fun _ => gt0, fun _ => gt0, trivial⟩, ?_⟩
    simp only [go_sem]
    rw [show l ++ q.bytes = l ++ le 128 1 ++ le (u32 q.ver) 4 ++ le (u64 q.path) 8 from by unfold QidR.bytes; rw [hb]; simp [List.append_assoc]]
    exact W_ret ⟨.inr rfl, _, rfl, RH.lev0 b3, _, rfl, (u1.then u2 (fun _ _ h => h)).then u3 (fun _ _ h => h), b3, fun k hk => Nat.le_trans u1.l (Nat.le_trans u2.l (l3 k hk))⟩
  · refine W_skip ?_
    simp only [go_sem]
    (repeat refine W_seq ?_); refine W_regionD [] [2, 6, 10] [0, 1, 3, 4, 5, 7, 8, 9, 2, 6, 10, 11] [0, 0, 3, 0, 8, 24, 63, 0, 128, 384, 1023, 2047] mixedM (by kernel_rfl) (by kernel_rfl) (by kernel_rfl) ?_
    simp only [listed, go_sem]
    refine AD_read (v := .ptr ⟨S.length + 1, 0, 1⟩) (fun M' => M'.get (S.length + 1) 0 = some (Block.row ⟨85, 3, QidR.cells q, false, false⟩)) rfl rfl (fun M' h => by show pureV (fieldAddrA Try.prog 85 (.ptr ⟨S.length + 1, 0, 0⟩) 1 M') M' = _; rw [ya1 h]; rfl) (gt0) ?_
    simp only [go_sem]
    refine AD_read (v := .int .i64 q.ver) (fun M' => M'.get (S.length + 1) 0 = some (Block.row ⟨85, 3, QidR.cells q, false, false⟩)) rfl rfl (fun M' h => by show pureV (loadA Try.prog 3 (.ptr ⟨S.length + 1, 0, 1⟩) M') M' = _; rw [yl1 h]; rfl) (gt0) ?_
    simp only [go_sem]
    refine AD_convI rfl rfl ti3 ti29 rfl ?_
    simp only [go_sem]
    refine AD_read (v := .ptr ⟨S.length + 1, 0, 2⟩) (fun M' => M'.get (S.length + 1) 0 = some (Block.row ⟨85, 3, QidR.cells q, false, false⟩)) rfl rfl (fun M' h => by show pureV (fieldAddrA Try.prog 85 (.ptr ⟨S.length + 1, 0, 0⟩) 2 M') M' = _; rw [ya2 h]; rfl) (gt0) ?_
    simp only [go_sem]
    refine AD_read (v := .int .i64 q.path) (fun M' => M'.get (S.length + 1) 0 = some (Block.row ⟨85, 3, QidR.cells q, false, false⟩)) rfl rfl (fun M' h => by show pureV (loadA Try.prog 3 (.ptr ⟨S.length + 1, 0, 2⟩) M') M' = _; rw [yl2 h]; rfl) (gt0) ?_
    simp only [go_sem]
    refine AD_convI rfl rfl ti3 ti23 rfl ?_
    simp only [go_sem]
    refine AD_call rfl rfl rfl (give (u21 (n := 0) h.rb (by omega) (by decide))) fun v M1 hd1 h1 => ?_
    obtain ⟨G1, rfl, u1, b1, l1⟩ := h1
    refine ⟨⟨fun _ => gt0, fun _ => gt0, fun _ => gt0, fun _ => gt0, trivial⟩, ?_⟩
    simp only [go_sem]
    refine AD_call rfl rfl rfl (u32B b1 (by simp only [List.length_append, le_length]; omega)) fun v M1 hd1 h1 => ?_
    obtain ⟨G2, rfl, u2, b2, l2⟩ := h1
    refine ⟨⟨fun _ => gt0, fun _ => gt0, fun _ => gt0, fun _ => gt0, trivial⟩, ?_⟩
    simp only [go_sem]
    refine AD_call rfl rfl rfl (u64B b2 (by simp only [List.length_append, le_length]; omega)) fun v M1 hd1 h1 => ?_
    obtain ⟨G3, rfl, u3, b3, l3⟩ := h1
    refine ⟨⟨fun _ => gt0, fun _ => gt0, fun _ => gt0, fun _ => gt0, trivial⟩, ?_⟩
    simp only [go_sem]
    rw [show l ++ q.bytes = l ++ le 0 1 ++ le (u32 q.ver) 4 ++ le (u64 q.path) 8 from by unfold QidR.bytes; rw [hb]; simp [List.append_assoc]]
    exact W_ret ⟨.inr rfl, _, rfl, RH.lev0 b3, _, rfl, (u1.then u2 (fun _ _ h => h)).then u3 (fun _ _ h => h), b3, fun k hk => Nat.le_trans u1.l (Nat.le_trans u2.l (l3 k hk))⟩
theorem tbody2 {a : TellR} (h : tkind a.ty = 2) : a.body = le (u32 a.msize) 4 ++ le a.name.length 2 ++ a.name := by unfold TellR.body; simp [h]
theorem tbody3 {a : TellR} (h : tkind a.ty = 3) : a.body = a.q.bytes := by unfold TellR.body; simp [h]
theorem tbody4 {a : TellR} (h : tkind a.ty = 4) : a.body = le (u16 a.code) 2 := by unfold TellR.body; simp [h]
theorem tbody5 {a : TellR} (h : tkind a.ty = 5) : a.body = qidsB a.qids := by unfold TellR.body; simp [h]
theorem tbody6 {a : TellR} (h : tkind a.ty = 6) : a.body = a.q.bytes ++ le (u32 a.iounit) 4 := by unfold TellR.body; simp [h]
theorem tbody7 {a : TellR} (h : tkind a.ty = 7) : a.body = le a.data.length 4 ++ a.data := by unfold TellR.body; simp [h]
theorem tbody8 {a : TellR} (h : tkind a.ty = 8) : a.body = le (u32 a.count) 4 := by unfold TellR.body; simp [h]
theorem tbody9 {a : TellR} (h : tkind a.ty = 9) : a.body = a.s.q.bytes ++ le (u32 a.s.mode) 4 ++ le (u64 a.s.size) 8 ++ le a.s.name.length 2 ++ a.s.name := by unfold TellR.body; simp [h]
theorem tbody0 {a : TellR} (n2 : ¬ tkind a.ty = 2) (n3 : ¬ tkind a.ty = 3) (n4 : ¬ tkind a.ty = 4) (n5 : ¬ tkind a.ty = 5) (n6 : ¬ tkind a.ty = 6) (n7 : ¬ tkind a.ty = 7) (n8 : ¬ tkind a.ty = 8) (n9 : ¬ tkind a.ty = 9) : a.body = [] := by unfold TellR.body; simp [n2, n3, n4, n5, n6, n7, n8, n9]
/-- What is wanted of putQids. -/
def Puts : Prop := ∀ (H : List Block) (S : List (List Block)) (v : AV) (l : List QidR), QL H v l → l.length ≤ 8 → AC Try.prog 143 [v] ⟨H, S⟩ (NewB H S (qidsB l))
theorem tbody113 {a : TellR} {vn vd : AV} (hn : QL H vn a.qids) (hd : BH H vd a.data) (fit : a.Fit) (hp : tkind a.ty = 5 → Puts) : AC Try.prog 113 [.agg (a.cells vn vd)] ⟨H, S⟩ (NewB H S a.body) := by
  refine AC_of_WE Try.func113 rfl ?_
  simp only [Try.ntmps113, List.length_cons, List.length_nil, List.replicate, List.cons_append, List.nil_append, mem_enter]
  have st1 := tcells_st a hn.one.1 hd.one.1
  have fn := fit.n
  have fs := fit.s
  have fd := fit.d
  (repeat refine W_seq ?_); refine W_regionT [] ?_
  simp only [go_sem, wboxL st1, List.nil_append, List.cons_append, List.length_nil, List.length_cons, Nat.zero_add, Nat.reduceAdd]
  (repeat refine W_seq ?_); refine W_regionT [] ?_
  simp only [go_sem, wa0_0, wa1_0, wa2_0, wa3_0, wa4_0, wa5_0, wa6_0, wa7_0, wa8_0, wa9_0, wa10_0, wa88_12_0, wa88_15_0, wa88_16_0, wa88_17_0, wa85_7_0, wa85_8_0, wa85_9_0, wa85_13_0, wa85_14_0, wl0_0, wl1_0, wl2_0, wl3_0, wl4_0, wl5_0, wl6_0, wl7_0, wl8_0, wl9_0, wl10_0, wl11_0, wl12_0, wl13_0, wl14_0, wl15_0, wl16_0, wl17_0, wl7g85_0, wl12g85_0, wl12g88_0, wL_0]
  refine AT_call rfl rfl (kind114) fun v M1 hd1 h1 => ?_
  obtain ⟨hv, hM⟩ := h1; subst hv; subst hM
  simp only [go_sem]
  (repeat refine W_seq ?_)
  refine W_block ?_
  (repeat refine W_seq ?_); refine W_regionT [] ?_
  simp only [go_sem]
  (repeat refine W_seq ?_)
  refine W_cond_if rfl (fun hb => ?_) (fun hb => ?_)
  · have hk : tkind a.ty = 2 := by simpa using hb
    (repeat refine W_seq ?_); refine W_regionD [] [3, 6] [0, 1, 2, 4, 5, 3, 6, 7] [0, 1, 3, 7, 0, 16, 63, 127] mixedM (by kernel_rfl) (by kernel_rfl) (by kernel_rfl) ?_
    simp only [listed, go_sem]
    refine AD_read (v := .ptr ⟨S.length + 1, 0, 3⟩) (fun M' => M'.get (S.length + 1) 0 = some (Block.row ⟨90, 18, TellR.cells a vn vd, false, false⟩)) rfl rfl (fun M' h => by show pureV (fieldAddrA Try.prog 90 (.ptr ⟨S.length + 1, 0, 0⟩) 3 M') M' = _; rw [wa3 h]; rfl) (gt0) ?_
    simp only [go_sem]
    refine AD_read (v := .int .i64 a.msize) (fun M' => M'.get (S.length + 1) 0 = some (Block.row ⟨90, 18, TellR.cells a vn vd, false, false⟩)) rfl rfl (fun M' h => by show pureV (loadA Try.prog 3 (.ptr ⟨S.length + 1, 0, 3⟩) M') M' = _; rw [wl3 h]; rfl) (gt0) ?_
    simp only [go_sem]
    refine AD_convI rfl rfl ti3 ti29 rfl ?_
    simp only [go_sem]
    refine AD_read (v := .ptr ⟨S.length + 1, 0, 6⟩) (fun M' => M'.get (S.length + 1) 0 = some (Block.row ⟨90, 18, TellR.cells a vn vd, false, false⟩)) rfl rfl (fun M' h => by show pureV (fieldAddrA Try.prog 90 (.ptr ⟨S.length + 1, 0, 0⟩) 6 M') M' = _; rw [wa6 h]; rfl) (gt0) ?_
    simp only [go_sem]
    refine AD_read (v := .str a.name) (fun M' => M'.get (S.length + 1) 0 = some (Block.row ⟨90, 18, TellR.cells a vn vd, false, false⟩)) rfl rfl (fun M' h => by show pureV (loadA Try.prog 9 (.ptr ⟨S.length + 1, 0, 6⟩) M') M' = _; rw [wl6 h]; rfl) (gt0) ?_
    simp only [go_sem]
    refine AD_call rfl rfl rfl (u32B BH.nil (by simp)) fun v M1 hd1 h1 => ?_
    obtain ⟨G1, rfl, u1, b1, l1⟩ := h1
    refine ⟨⟨fun _ => gt0, fun _ => gt0, fun _ => gt0, fun _ => gt0, trivial⟩, ?_⟩
    simp only [go_sem]
    refine AD_call rfl rfl rfl (textB b1 (by simp [qid_len, le_length]; try omega) (by omega)) fun v M1 hd1 h1 => ?_
    obtain ⟨G2, rfl, u2, b2, l2⟩ := h1
    refine ⟨⟨fun _ => gt0, fun _ => gt0, fun _ => gt0, fun _ => gt0, trivial⟩, ?_⟩
    simp only [go_sem]
    rw [tbody2 hk]
    try simp only [List.nil_append, List.append_assoc] at b2 ⊢
    exact W_ret ⟨.inr rfl, _, rfl, RH.lev0 b2, _, rfl, u1.then u2 (fun _ _ h => h), b2, fun k hk => Nat.le_trans u1.l (l2 k hk)⟩
  · have n2 : ¬ tkind a.ty = 2 := by simpa using hb
    (repeat refine W_seq ?_); refine W_regionT [] ?_
    simp only [go_sem]
    (repeat refine W_seq ?_)
    refine W_cond_if rfl (fun hb => ?_) (fun hb => ?_)
    · have hk : tkind a.ty = 3 := by simpa using hb
      (repeat refine W_seq ?_); refine W_regionT [] ?_
      simp only [go_sem, wa0_0, wa1_0, wa2_0, wa3_0, wa4_0, wa5_0, wa6_0, wa7_0, wa8_0, wa9_0, wa10_0, wa88_12_0, wa88_15_0, wa88_16_0, wa88_17_0, wa85_7_0, wa85_8_0, wa85_9_0, wa85_13_0, wa85_14_0, wl0_0, wl1_0, wl2_0, wl3_0, wl4_0, wl5_0, wl6_0, wl7_0, wl8_0, wl9_0, wl10_0, wl11_0, wl12_0, wl13_0, wl14_0, wl15_0, wl16_0, wl17_0, wl7g85_0, wl12g85_0, wl12g88_0, wL_0]
      refine AT_call rfl rfl (putQid142 BH.nil (by simp)) fun v M1 hd1 h1 => ?_
      obtain ⟨G1, rfl, u1, b1, l1⟩ := h1
      simp only [go_sem]
      rw [tbody3 hk]
      try simp only [List.nil_append, List.append_assoc] at b1 ⊢
      exact W_ret ⟨.inr rfl, _, rfl, RH.lev0 b1, _, rfl, u1, b1, l1⟩
    · have n3 : ¬ tkind a.ty = 3 := by simpa using hb
      (repeat refine W_seq ?_); refine W_regionT [] ?_
      simp only [go_sem]
      (repeat refine W_seq ?_)
      refine W_cond_if rfl (fun hb => ?_) (fun hb => ?_)
      · have hk : tkind a.ty = 4 := by simpa using hb
        (repeat refine W_seq ?_); refine W_regionT [] ?_
        simp only [go_sem, wa0_0, wa1_0, wa2_0, wa3_0, wa4_0, wa5_0, wa6_0, wa7_0, wa8_0, wa9_0, wa10_0, wa88_12_0, wa88_15_0, wa88_16_0, wa88_17_0, wa85_7_0, wa85_8_0, wa85_9_0, wa85_13_0, wa85_14_0, wl0_0, wl1_0, wl2_0, wl3_0, wl4_0, wl5_0, wl6_0, wl7_0, wl8_0, wl9_0, wl10_0, wl11_0, wl12_0, wl13_0, wl14_0, wl15_0, wl16_0, wl17_0, wl7g85_0, wl12g85_0, wl12g88_0, wL_0]
        refine AT_call rfl rfl (u16B BH.nil (by simp)) fun v M1 hd1 h1 => ?_
        obtain ⟨G1, rfl, u1, b1, l1⟩ := h1
        simp only [go_sem]
        rw [tbody4 hk]
        try simp only [List.nil_append, List.append_assoc] at b1 ⊢
        exact W_ret ⟨.inr rfl, _, rfl, RH.lev0 b1, _, rfl, u1, b1, l1⟩
      · have n4 : ¬ tkind a.ty = 4 := by simpa using hb
        (repeat refine W_seq ?_); refine W_regionT [] ?_
        simp only [go_sem]
        (repeat refine W_seq ?_)
        refine W_cond_if rfl (fun hb => ?_) (fun hb => ?_)
        · have hk : tkind a.ty = 5 := by simpa using hb
          (repeat refine W_seq ?_); refine W_regionT [] ?_
          simp only [go_sem, wa0_0, wa1_0, wa2_0, wa3_0, wa4_0, wa5_0, wa6_0, wa7_0, wa8_0, wa9_0, wa10_0, wa88_12_0, wa88_15_0, wa88_16_0, wa88_17_0, wa85_7_0, wa85_8_0, wa85_9_0, wa85_13_0, wa85_14_0, wl0_0, wl1_0, wl2_0, wl3_0, wl4_0, wl5_0, wl6_0, wl7_0, wl8_0, wl9_0, wl10_0, wl11_0, wl12_0, wl13_0, wl14_0, wl15_0, wl16_0, wl17_0, wl7g85_0, wl12g85_0, wl12g88_0, wL_0]
          refine AT_call rfl rfl (hp hk _ _ _ _ hn fit.l) fun v M1 hd1 h1 => ?_
          obtain ⟨G1, rfl, u1, b1, l1⟩ := h1
          simp only [go_sem]
          rw [tbody5 hk]
          try simp only [List.nil_append, List.append_assoc] at b1 ⊢
          exact W_ret ⟨.inr rfl, _, rfl, RH.lev0 b1, _, rfl, u1, b1, l1⟩
        · have n5 : ¬ tkind a.ty = 5 := by simpa using hb
          (repeat refine W_seq ?_); refine W_regionT [] ?_
          simp only [go_sem]
          (repeat refine W_seq ?_)
          refine W_cond_if rfl (fun hb => ?_) (fun hb => ?_)
          · have hk : tkind a.ty = 6 := by simpa using hb
            (repeat refine W_seq ?_); refine W_regionD [] [2, 6] [0, 1, 3, 4, 5, 2, 6, 7] [0, 1, 3, 0, 8, 24, 63, 127] mixedM (by kernel_rfl) (by kernel_rfl) (by kernel_rfl) ?_
            simp only [listed, go_sem]
            refine AD_read (v := .ptr ⟨S.length + 1, 0, 7⟩) (fun M' => M'.get (S.length + 1) 0 = some (Block.row ⟨90, 18, TellR.cells a vn vd, false, false⟩)) rfl rfl (fun M' h => by show pureV (fieldAddrA Try.prog 90 (.ptr ⟨S.length + 1, 0, 0⟩) 7 M') M' = _; rw [wa7 h]; rfl) (gt0) ?_
            simp only [go_sem]
            refine AD_read (v := .agg a.q.cells) (fun M' => M'.get (S.length + 1) 0 = some (Block.row ⟨90, 18, TellR.cells a vn vd, false, false⟩)) rfl rfl (fun M' h => by show pureV (loadA Try.prog 85 (.ptr ⟨S.length + 1, 0, 7⟩) M') M' = _; rw [wl7g85 h]; rfl) (gt0) ?_
            simp only [go_sem]
            refine AD_read (v := .ptr ⟨S.length + 1, 0, 4⟩) (fun M' => M'.get (S.length + 1) 0 = some (Block.row ⟨90, 18, TellR.cells a vn vd, false, false⟩)) rfl rfl (fun M' h => by show pureV (fieldAddrA Try.prog 90 (.ptr ⟨S.length + 1, 0, 0⟩) 4 M') M' = _; rw [wa4 h]; rfl) (gt0) ?_
            simp only [go_sem]
            refine AD_read (v := .int .i64 a.iounit) (fun M' => M'.get (S.length + 1) 0 = some (Block.row ⟨90, 18, TellR.cells a vn vd, false, false⟩)) rfl rfl (fun M' h => by show pureV (loadA Try.prog 3 (.ptr ⟨S.length + 1, 0, 4⟩) M') M' = _; rw [wl4 h]; rfl) (gt0) ?_
            simp only [go_sem]
            refine AD_convI rfl rfl ti3 ti29 rfl ?_
            simp only [go_sem]
            refine AD_call rfl rfl rfl (putQid142 BH.nil (by simp)) fun v M1 hd1 h1 => ?_
            obtain ⟨G1, rfl, u1, b1, l1⟩ := h1
            refine ⟨⟨fun _ => gt0, fun _ => gt0, fun _ => gt0, fun _ => gt0, trivial⟩, ?_⟩
            simp only [go_sem]
            refine AD_call rfl rfl rfl (u32B b1 (by simp [qid_len, le_length]; try omega)) fun v M1 hd1 h1 => ?_
            obtain ⟨G2, rfl, u2, b2, l2⟩ := h1
            refine ⟨⟨fun _ => gt0, fun _ => gt0, fun _ => gt0, fun _ => gt0, trivial⟩, ?_⟩
            simp only [go_sem]
            rw [tbody6 hk]
            try simp only [List.nil_append, List.append_assoc] at b2 ⊢
            exact W_ret ⟨.inr rfl, _, rfl, RH.lev0 b2, _, rfl, u1.then u2 (fun _ _ h => h), b2, fun k hk => Nat.le_trans u1.l (l2 k hk)⟩
          · have n6 : ¬ tkind a.ty = 6 := by simpa using hb
            (repeat refine W_seq ?_); refine W_regionT [] ?_
            simp only [go_sem]
            (repeat refine W_seq ?_)
            refine W_cond_if rfl (fun hb => ?_) (fun hb => ?_)
            · have hk : tkind a.ty = 7 := by simpa using hb
              (repeat refine W_seq ?_); refine W_regionT [] ?_
              simp only [go_sem, wa0_0, wa1_0, wa2_0, wa3_0, wa4_0, wa5_0, wa6_0, wa7_0, wa8_0, wa9_0, wa10_0, wa88_12_0, wa88_15_0, wa88_16_0, wa88_17_0, wa85_7_0, wa85_8_0, wa85_9_0, wa85_13_0, wa85_14_0, wl0_0, wl1_0, wl2_0, wl3_0, wl4_0, wl5_0, wl6_0, wl7_0, wl8_0, wl9_0, wl10_0, wl11_0, wl12_0, wl13_0, wl14_0, wl15_0, wl16_0, wl17_0, wl7g85_0, wl12g85_0, wl12g88_0, wL_0]
              refine AT_call rfl rfl (dataB BH.nil hd (by simp) (by omega)) fun v M1 hd1 h1 => ?_
              obtain ⟨G1, rfl, u1, b1, l1⟩ := h1
              simp only [go_sem]
              rw [tbody7 hk]
              try simp only [List.nil_append, List.append_assoc] at b1 ⊢
              exact W_ret ⟨.inr rfl, _, rfl, RH.lev0 b1, _, rfl, u1, b1, l1⟩
            · have n7 : ¬ tkind a.ty = 7 := by simpa using hb
              (repeat refine W_seq ?_); refine W_regionT [] ?_
              simp only [go_sem]
              (repeat refine W_seq ?_)
              refine W_cond_if rfl (fun hb => ?_) (fun hb => ?_)
              · have hk : tkind a.ty = 8 := by simpa using hb
                (repeat refine W_seq ?_); refine W_regionT [] ?_
                simp only [go_sem, wa0_0, wa1_0, wa2_0, wa3_0, wa4_0, wa5_0, wa6_0, wa7_0, wa8_0, wa9_0, wa10_0, wa88_12_0, wa88_15_0, wa88_16_0, wa88_17_0, wa85_7_0, wa85_8_0, wa85_9_0, wa85_13_0, wa85_14_0, wl0_0, wl1_0, wl2_0, wl3_0, wl4_0, wl5_0, wl6_0, wl7_0, wl8_0, wl9_0, wl10_0, wl11_0, wl12_0, wl13_0, wl14_0, wl15_0, wl16_0, wl17_0, wl7g85_0, wl12g85_0, wl12g88_0, wL_0]
                refine AT_call rfl rfl (u32B BH.nil (by simp)) fun v M1 hd1 h1 => ?_
                obtain ⟨G1, rfl, u1, b1, l1⟩ := h1
                simp only [go_sem]
                rw [tbody8 hk]
                try simp only [List.nil_append, List.append_assoc] at b1 ⊢
                exact W_ret ⟨.inr rfl, _, rfl, RH.lev0 b1, _, rfl, u1, b1, l1⟩
              · have n8 : ¬ tkind a.ty = 8 := by simpa using hb
                (repeat refine W_seq ?_); refine W_regionT [] ?_
                simp only [go_sem]
                (repeat refine W_seq ?_)
                refine W_cond_if rfl (fun hb => ?_) (fun hb => ?_)
                · have hk : tkind a.ty = 9 := by simpa using hb
                  (repeat refine W_seq ?_); refine W_regionD [] [3, 8] [0, 1, 2, 4, 5, 6, 7, 3, 8, 9] [0, 1, 3, 7, 0, 16, 48, 112, 255, 511] mixedM (by kernel_rfl) (by kernel_rfl) (by kernel_rfl) ?_
                  simp only [listed, go_sem]
                  refine AD_read (v := .ptr ⟨S.length + 1, 0, 12⟩) (fun M' => M'.get (S.length + 1) 0 = some (Block.row ⟨90, 18, TellR.cells a vn vd, false, false⟩)) rfl rfl (fun M' h => by show pureV (fieldAddrA Try.prog 90 (.ptr ⟨S.length + 1, 0, 0⟩) 10 M') M' = _; rw [wa10 h]; rfl) (gt0) ?_
                  simp only [go_sem]
                  refine AD_read (v := .ptr ⟨S.length + 1, 0, 12⟩) (fun M' => M'.get (S.length + 1) 0 = some (Block.row ⟨90, 18, TellR.cells a vn vd, false, false⟩)) rfl rfl (fun M' h => by show pureV (fieldAddrA Try.prog 88 (.ptr ⟨S.length + 1, 0, 12⟩) 0 M') M' = _; rw [wa88_12 h]; rfl) (gt0) ?_
                  simp only [go_sem]
                  refine AD_read (v := .agg a.s.q.cells) (fun M' => M'.get (S.length + 1) 0 = some (Block.row ⟨90, 18, TellR.cells a vn vd, false, false⟩)) rfl rfl (fun M' h => by show pureV (loadA Try.prog 85 (.ptr ⟨S.length + 1, 0, 12⟩) M') M' = _; rw [wl12g85 h]; rfl) (gt0) ?_
                  simp only [go_sem]
                  refine AD_read (v := .ptr ⟨S.length + 1, 0, 12⟩) (fun M' => M'.get (S.length + 1) 0 = some (Block.row ⟨90, 18, TellR.cells a vn vd, false, false⟩)) rfl rfl (fun M' h => by show pureV (fieldAddrA Try.prog 90 (.ptr ⟨S.length + 1, 0, 0⟩) 10 M') M' = _; rw [wa10 h]; rfl) (gt0) ?_
                  simp only [go_sem]
                  refine AD_read (v := .ptr ⟨S.length + 1, 0, 15⟩) (fun M' => M'.get (S.length + 1) 0 = some (Block.row ⟨90, 18, TellR.cells a vn vd, false, false⟩)) rfl rfl (fun M' h => by show pureV (fieldAddrA Try.prog 88 (.ptr ⟨S.length + 1, 0, 12⟩) 1 M') M' = _; rw [wa88_15 h]; rfl) (gt0) ?_
                  simp only [go_sem]
                  refine AD_read (v := .int .i64 a.s.mode) (fun M' => M'.get (S.length + 1) 0 = some (Block.row ⟨90, 18, TellR.cells a vn vd, false, false⟩)) rfl rfl (fun M' h => by show pureV (loadA Try.prog 3 (.ptr ⟨S.length + 1, 0, 15⟩) M') M' = _; rw [wl15 h]; rfl) (gt0) ?_
                  simp only [go_sem]
                  refine AD_convI rfl rfl ti3 ti29 rfl ?_
                  simp only [go_sem]
                  refine AD_call rfl rfl rfl (putQid142 BH.nil (by simp)) fun v M1 hd1 h1 => ?_
                  obtain ⟨G1, rfl, u1, b1, l1⟩ := h1
                  refine ⟨⟨fun _ => gt0, fun _ => gt0, fun _ => gt0, fun _ => gt0, fun _ => gt0, fun _ => gt0, trivial⟩, ?_⟩
                  simp only [go_sem]
                  refine AD_call rfl rfl rfl (u32B b1 (by simp [qid_len, le_length]; try omega)) fun v M1 hd1 h1 => ?_
                  obtain ⟨G2, rfl, u2, b2, l2⟩ := h1
                  refine ⟨⟨fun _ => gt0, fun _ => gt0, fun _ => gt0, fun _ => gt0, fun _ => gt0, fun _ => gt0, trivial⟩, ?_⟩
                  simp only [go_sem]
                  (repeat refine W_seq ?_); refine W_regionD [] [5, 9] [0, 1, 2, 3, 4, 6, 7, 8, 5, 9, 10] [0, 0, 2, 6, 14, 31, 0, 64, 192, 511, 1023] mixedM (by kernel_rfl) (by kernel_rfl) (by kernel_rfl) ?_
                  simp only [listed, go_sem]
                  refine AD_read (v := .ptr ⟨S.length + 1, 0, 12⟩) (fun M' => M'.get (S.length + 1) 0 = some (Block.row ⟨90, 18, TellR.cells a vn vd, false, false⟩)) rfl rfl (fun M' h => by show pureV (fieldAddrA Try.prog 90 (.ptr ⟨S.length + 1, 0, 0⟩) 10 M') M' = _; rw [wa10 h]; rfl) (gt0) ?_
                  simp only [go_sem]
                  refine AD_read (v := .ptr ⟨S.length + 1, 0, 16⟩) (fun M' => M'.get (S.length + 1) 0 = some (Block.row ⟨90, 18, TellR.cells a vn vd, false, false⟩)) rfl rfl (fun M' h => by show pureV (fieldAddrA Try.prog 88 (.ptr ⟨S.length + 1, 0, 12⟩) 2 M') M' = _; rw [wa88_16 h]; rfl) (gt0) ?_
                  simp only [go_sem]
                  refine AD_read (v := .int .i64 a.s.size) (fun M' => M'.get (S.length + 1) 0 = some (Block.row ⟨90, 18, TellR.cells a vn vd, false, false⟩)) rfl rfl (fun M' h => by show pureV (loadA Try.prog 3 (.ptr ⟨S.length + 1, 0, 16⟩) M') M' = _; rw [wl16 h]; rfl) (gt0) ?_
                  simp only [go_sem]
                  refine AD_convI rfl rfl ti3 ti23 rfl ?_
                  simp only [go_sem]
                  refine AD_read (v := .ptr ⟨S.length + 1, 0, 12⟩) (fun M' => M'.get (S.length + 1) 0 = some (Block.row ⟨90, 18, TellR.cells a vn vd, false, false⟩)) rfl rfl (fun M' h => by show pureV (fieldAddrA Try.prog 90 (.ptr ⟨S.length + 1, 0, 0⟩) 10 M') M' = _; rw [wa10 h]; rfl) (gt0) ?_
                  simp only [go_sem]
                  refine AD_read (v := .ptr ⟨S.length + 1, 0, 17⟩) (fun M' => M'.get (S.length + 1) 0 = some (Block.row ⟨90, 18, TellR.cells a vn vd, false, false⟩)) rfl rfl (fun M' h => by show pureV (fieldAddrA Try.prog 88 (.ptr ⟨S.length + 1, 0, 12⟩) 3 M') M' = _; rw [wa88_17 h]; rfl) (gt0) ?_
                  simp only [go_sem]
                  refine AD_read (v := .str a.s.name) (fun M' => M'.get (S.length + 1) 0 = some (Block.row ⟨90, 18, TellR.cells a vn vd, false, false⟩)) rfl rfl (fun M' h => by show pureV (loadA Try.prog 9 (.ptr ⟨S.length + 1, 0, 17⟩) M') M' = _; rw [wl17 h]; rfl) (gt0) ?_
                  simp only [go_sem]
                  refine AD_call rfl rfl rfl (u64B b2 (by simp [qid_len, le_length]; try omega)) fun v M1 hd1 h1 => ?_
                  obtain ⟨G3, rfl, u3, b3, l3⟩ := h1
                  refine ⟨⟨fun _ => gt0, fun _ => gt0, fun _ => gt0, fun _ => gt0, fun _ => gt0, fun _ => gt0, trivial⟩, ?_⟩
                  simp only [go_sem]
                  refine AD_call rfl rfl rfl (textB b3 (by simp [qid_len, le_length]; try omega) (by omega)) fun v M1 hd1 h1 => ?_
                  obtain ⟨G4, rfl, u4, b4, l4⟩ := h1
                  refine ⟨⟨fun _ => gt0, fun _ => gt0, fun _ => gt0, fun _ => gt0, fun _ => gt0, fun _ => gt0, trivial⟩, ?_⟩
                  simp only [go_sem]
                  rw [tbody9 hk]
                  try simp only [List.nil_append, List.append_assoc] at b4 ⊢
                  exact W_ret ⟨.inr rfl, _, rfl, RH.lev0 b4, _, rfl, ((u1.then u2 (fun _ _ h => h)).then u3 (fun _ _ h => h)).then u4 (fun _ _ h => h), b4, fun k hk => by have := l4 k hk; have := u1.l; have := u2.l; have := u3.l; omega⟩
                · have n9 : ¬ tkind a.ty = 9 := by simpa using hb
                  refine W_skip ?_
                  simp only [go_sem]
                  (repeat refine W_seq ?_); refine W_regionT [] ?_
                  simp only [go_sem]
                  rw [tbody0 n2 n3 n4 n5 n6 n7 n8 n9]
                  exact W_ret ⟨.inr rfl, _, rfl, RH.lev0 (BH.nil (H := H)), _, rfl, UpdH.refl, BH.nil, fun k h => h.elim⟩
theorem twrite64 {x : AV} {a : TellR} (hx : TellV H x a) (hl : a.qids.length < 900000) (hp : tkind a.ty = 5 → Puts) : AC Try.prog 64 [x] ⟨H, S⟩ (fun v M' => ∃ H' vb, v = .tup [vb, .int .i64 (if a.may then 0 else 1)] ∧ M' = ⟨H', S⟩ ∧ UpdH no H H' ∧ BH H' vb (if a.may then a.pack else []) ∧ ∀ k, vb.loc k → H.length ≤ k) := by
  refine AC_of_WE Try.func64 rfl ?_
  simp only [Try.ntmps64, List.length_cons, List.length_nil, List.replicate, List.cons_append, List.nil_append, mem_enter]
  obtain ⟨vn, vd, rfl, hn, hd⟩ := hx
  have hx' : TellV H (.agg (a.cells vn vd)) a := ⟨vn, vd, rfl, hn, hd⟩
  have c11 := tcells_st a hn.one.1 hd.one.1
  (repeat refine W_seq ?_); refine W_regionT [] ?_
  simp only [go_sem, wboxL c11, List.nil_append, List.cons_append, List.length_nil, List.length_cons, Nat.zero_add, Nat.reduceAdd]
  (repeat refine W_seq ?_); refine W_regionT [] ?_
  simp only [go_sem, wa0_0, wa1_0, wa2_0, wa3_0, wa4_0, wa5_0, wa6_0, wa7_0, wa8_0, wa9_0, wa10_0, wa88_12_0, wa88_15_0, wa88_16_0, wa88_17_0, wa85_7_0, wa85_8_0, wa85_9_0, wa85_13_0, wa85_14_0, wl0_0, wl1_0, wl2_0, wl3_0, wl4_0, wl5_0, wl6_0, wl7_0, wl8_0, wl9_0, wl10_0, wl11_0, wl12_0, wl13_0, wl14_0, wl15_0, wl16_0, wl17_0, wl7g85_0, wl12g85_0, wl12g88_0, wL_0]
  refine AT_call rfl rfl (may65 hx' hl) fun v M1 hd1 h1 => ?_
  obtain ⟨hv, H1, rfl, u1⟩ := h1; subst hv
  simp only [go_sem]
  (repeat refine W_seq ?_)
  refine W_cond_if rfl (fun hb => ?_) (fun hb => ?_)
  · have hm : a.may = false := by simpa using hb
    (repeat refine W_seq ?_); refine W_regionT [] ?_
    simp only [go_sem]
    refine W_ret ⟨.inr rfl, _, rfl, rfl, ?_⟩
    rw [hm]
    exact ⟨_, _, rfl, rfl, u1, BH.nil, fun k h => h.elim⟩
  · have hm : a.may = true := by simpa using hb
    refine W_skip ?_
    simp only [go_sem]
    have fit := TellR.fit hm
    (repeat refine W_seq ?_); refine W_regionD [] [7, 8] [0, 1, 2, 3, 4, 5, 6, 7, 8, 9, 10] [0, 1, 3, 0, 8, 24, 0, 64, 255, 511, 1023] mixedM (by kernel_rfl) (by kernel_rfl) (by kernel_rfl) ?_
    simp only [listed, go_sem]
    refine AD_read (v := .ptr ⟨S.length + 1, 0, 0⟩) (fun M' => M'.get (S.length + 1) 0 = some (Block.row ⟨90, 18, TellR.cells a vn vd, false, false⟩)) rfl rfl (fun M' h => by show pureV (fieldAddrA Try.prog 90 (.ptr ⟨S.length + 1, 0, 0⟩) 0 M') M' = _; rw [wa0 h]; rfl) (gt0) ?_
    simp only [go_sem]
    refine AD_read (v := .int .i64 a.ty) (fun M' => M'.get (S.length + 1) 0 = some (Block.row ⟨90, 18, TellR.cells a vn vd, false, false⟩)) rfl rfl (fun M' h => by show pureV (loadA Try.prog 3 (.ptr ⟨S.length + 1, 0, 0⟩) M') M' = _; rw [wl0 h]; rfl) (gt0) ?_
    simp only [go_sem]
    refine AD_convI rfl rfl ti3 ti5 rfl ?_
    simp only [go_sem]
    refine AD_read (v := .ptr ⟨S.length + 1, 0, 1⟩) (fun M' => M'.get (S.length + 1) 0 = some (Block.row ⟨90, 18, TellR.cells a vn vd, false, false⟩)) rfl rfl (fun M' h => by show pureV (fieldAddrA Try.prog 90 (.ptr ⟨S.length + 1, 0, 0⟩) 1 M') M' = _; rw [wa1 h]; rfl) (gt0) ?_
    simp only [go_sem]
    refine AD_read (v := .int .i64 a.tag) (fun M' => M'.get (S.length + 1) 0 = some (Block.row ⟨90, 18, TellR.cells a vn vd, false, false⟩)) rfl rfl (fun M' h => by show pureV (loadA Try.prog 3 (.ptr ⟨S.length + 1, 0, 1⟩) M') M' = _; rw [wl1 h]; rfl) (gt0) ?_
    simp only [go_sem]
    refine AD_convI rfl rfl ti3 ti24 rfl ?_
    simp only [go_sem]
    refine AD_read (v := .agg (a.cells vn vd)) (fun M' => M'.get (S.length + 1) 0 = some (Block.row ⟨90, 18, TellR.cells a vn vd, false, false⟩)) rfl rfl (fun M' h => by show pureV (loadA Try.prog 90 (.ptr ⟨S.length + 1, 0, 0⟩) M') M' = _; rw [wL h]; rfl) (gt0) ?_
    simp only [go_sem]
    refine AD_call rfl rfl rfl (tbody113 (hn.new u1) (hd.new u1) fit hp) fun v M1 hd1 h1 => ?_
    obtain ⟨H2, rfl, u2, b2, _⟩ := h1
    refine ⟨⟨fun _ => gt0, fun _ => gt0, fun _ => gt0, fun _ => gt0, fun _ => gt0, trivial⟩, ?_⟩
    simp only [go_sem]
    refine AD_call rfl rfl rfl (packB b2 (by have := tbody_len fit; omega)) fun v M1 hd1 h1 => ?_
    obtain ⟨H3, rfl, u3, b3, l3⟩ := h1
    rw [show le (7 + a.body.length) 4 ++ le (u8 a.ty) 1 ++ le (u16 a.tag) 2 ++ a.body = a.pack from rfl] at b3
    refine ⟨⟨fun _ => gt0, fun _ => gt0, fun _ => gt0, fun _ => gt0, fun _ => gt0, trivial⟩, ?_⟩
    simp only [go_sem]
    refine W_ret ⟨.inr rfl, [v, .int .i64 0], rfl, ?_, ?_⟩
    · show lev0s [v, .int .i64 0] = true
      simp only [lev0s, AV.lev0, b3.lev0', Bool.and_true]
    rw [hm]
    exact ⟨_, _, rfl, rfl, (u1.then u2 (fun _ _ h => h)).then u3 (fun _ _ h => h), b3, fun k hk => Nat.le_trans u1.l (Nat.le_trans u2.l (l3 k hk))⟩
def errR (t c : Int) : TellR := ⟨107, t, c, 0, 0, 0, [], QidR.z, [], [], StatR.z⟩
theorem tbld3 {t c : Int} : buildA Try.prog 90 [(0, .int .i64 107), (1, .int .i64 t), (2, .int .i64 c)] = some (.agg (TellR.cells (errR t c) .nilsl .nilsl)) := by unfold buildA; simp only [ti90]; rfl
theorem errV {t c : Int} : TellV H (.agg (TellR.cells (errR t c) .nilsl .nilsl)) (errR t c) := ⟨_, _, rfl, QL.nil, BH.nil⟩
theorem error71 {t c : Int} : AC Try.prog 71 [.int .i64 t, .int .i64 c] ⟨H, S⟩ (fun v M' => v = .agg (TellR.cells (errR t c) .nilsl .nilsl) ∧ M' = ⟨H, S⟩) := by
  refine AC_of_WE Try.func71 rfl ?_
  simp only [Try.ntmps71, List.length_cons, List.length_nil, List.replicate, List.cons_append, List.nil_append, mem_enter]
  have c0 := tcells_st (errR t c) (vn := .nilsl) (vd := .nilsl) rfl rfl
  (repeat refine W_seq ?_); refine W_regionT [] ?_
  simp only [go_sem, wallocL, List.nil_append, List.cons_append, List.length_nil, List.length_cons, Nat.zero_add, Nat.reduceAdd]
  (repeat refine W_seq ?_); refine W_regionT [] ?_
  simp only [go_sem, tbld3, wS_0 c0]
  refine W_ret ⟨.inr rfl, [.agg (TellR.cells (errR t c) .nilsl .nilsl)], ?_, ?_, rfl, rfl⟩
  · show (match loadA Try.prog 90 (.ptr ⟨S.length + 1, 0, 0⟩) _, resE Try.prog _ _ [] with | some v, some vs => some (v :: vs) | _, _ => none) = _
    rw [wL_0]; rfl
  · show (AV.agg _).lev0 = true
    have e : lev0s (TellR.cells (errR t c) .nilsl .nilsl) = true := tcells_lev rfl rfl
    simp only [AV.lev0, e]
theorem tmay107 : (errR 1 2).may = true := by decide
theorem tpack107 : (errR 1 2).pack = [9, 0, 0, 0, 107, 1, 0, 2, 0] := by decide
theorem lives67'  : AC Try.prog 67 [] ⟨H, S⟩ (fun v M' => v = .bool true) := by
  refine AC_of_WE Try.func67 rfl ?_
  simp only [Try.ntmps67, List.length_cons, List.length_nil, List.replicate, List.cons_append, List.nil_append, mem_enter]
  (repeat refine W_seq ?_); refine W_regionT [] ?_
  simp only [go_sem]
  (repeat refine W_seq ?_); refine W_regionT [] ?_
  simp only [go_sem]
  refine AT_call rfl rfl (error71) fun v M1 hd1 h1 => ?_
  obtain ⟨hv, hM⟩ := h1; subst hv; subst hM
  simp only [go_sem]
  refine AT_call rfl rfl (twrite64 (a := errR 1 2) errV (by decide) (fun h => absurd h (by decide))) fun v M1 hd1 h1 => ?_
  rw [tmay107, tpack107] at h1
  obtain ⟨H1, vb, rfl, rfl, u1, b1, _⟩ := h1
  simp only [go_sem, if_true]
  (repeat refine W_seq ?_); refine W_regionT [] ?_
  simp only [go_sem, b1.text]
  exact W_ret ⟨.inr rfl, _, rfl, rfl, rfl⟩
theorem lives67 {M : Mem} : AC Try.prog 67 [] M (fun v M' => v = .bool true ∧ M' = M) :=
  (AC_closed rfl (lives67' (H := []) (S := [])) (fun v M' h => by rw [h]; rfl)).mono fun v M' h => ⟨h.1.choose_spec, h.2⟩
end
end Go.Proofs.Ytlpcbfndjffpfaa
