/- The walk of the reference's number, field, Bytes, and of AskMay. -/
import Derived.Test.YtlpcbfndjffpfaaAskSames
set_option maxRecDepth 100000
set_option maxHeartbeats 4000000
set_option linter.unusedSimpArgs false
set_option linter.unusedVariables false
namespace Go.Proofs.Ytlpcbfndjffpfaa
open Go.Abs
def AskR.fieldB (a : AskR) (f : UInt8) : List UInt8 := if f = 102 then le (u32 a.fid) 4 else if f = 119 then le (u32 a.newfid) 4 else if f = 116 then le (u16 a.oldtag) 2 else if f = 122 then le (u32 a.msize) 4 else if f = 109 then le (u8 a.mode) 1 else if f = 112 then le (u32 a.perm) 4 else if f = 111 then le (u64 a.off) 8 else if f = 99 then le (u32 a.count) 4 else if f = 115 then le (u32 a.size) 4 else if f = 110 then le a.name.length 2 ++ a.name else if f = 100 then le a.data.length 4 ++ a.data else le (u16 a.names.length) 2 ++ textsOf a.names
theorem fieldB_len {a : AskR} (fit : a.Fit) {f : UInt8} : (a.fieldB f).length ≤ 3000 := by
  have fn := fit.n
  have fd := fit.d
  have fl := fit.l
  have ft := texts_len fit.s
  unfold AskR.fieldB
  repeat' split
  all_goals (simp only [List.length_append, le_length]; omega)
theorem bodyF100 {a : AskR} (h : a.ty = 100) : (fieldsOf a.ty).flatMap a.fieldB = a.body := by
  rw [body100 h, fields100 h]
  simp [AskR.fieldB, List.append_assoc]
theorem bodyF104 {a : AskR} (h : a.ty = 104) : (fieldsOf a.ty).flatMap a.fieldB = a.body := by
  rw [body104 h, fields104 h]
  simp [AskR.fieldB, List.append_assoc]
theorem bodyF108 {a : AskR} (h : a.ty = 108) : (fieldsOf a.ty).flatMap a.fieldB = a.body := by
  rw [body108 h, fields108 h]
  simp [AskR.fieldB, List.append_assoc]
theorem bodyF110 {a : AskR} (h : a.ty = 110) : (fieldsOf a.ty).flatMap a.fieldB = a.body := by
  rw [body110 h, fields110 h]
  simp [AskR.fieldB, List.append_assoc]
theorem bodyF112 {a : AskR} (h : a.ty = 112) : (fieldsOf a.ty).flatMap a.fieldB = a.body := by
  rw [body112 h, fields112 h]
  simp [AskR.fieldB, List.append_assoc]
theorem bodyF114 {a : AskR} (h : a.ty = 114) : (fieldsOf a.ty).flatMap a.fieldB = a.body := by
  rw [body114 h, fields114 h]
  simp [AskR.fieldB, List.append_assoc]
theorem bodyF116 {a : AskR} (h : a.ty = 116) : (fieldsOf a.ty).flatMap a.fieldB = a.body := by
  rw [body116 h, fields116 h]
  simp [AskR.fieldB, List.append_assoc]
theorem bodyF118 {a : AskR} (h : a.ty = 118) : (fieldsOf a.ty).flatMap a.fieldB = a.body := by
  rw [body118 h, fields118 h]
  simp [AskR.fieldB, List.append_assoc]
theorem bodyF120 {a : AskR} (h : a.ty = 120) : (fieldsOf a.ty).flatMap a.fieldB = a.body := by
  rw [body120 h, fields120 h]
  simp [AskR.fieldB, List.append_assoc]
theorem bodyF122 {a : AskR} (h : a.ty = 122) : (fieldsOf a.ty).flatMap a.fieldB = a.body := by
  rw [body122 h, fields122 h]
  simp [AskR.fieldB, List.append_assoc]
theorem bodyF124 {a : AskR} (h : a.ty = 124) : (fieldsOf a.ty).flatMap a.fieldB = a.body := by
  rw [body124 h, fields124 h]
  simp [AskR.fieldB, List.append_assoc]
theorem bodyF126 {a : AskR} (h : a.ty = 126) : (fieldsOf a.ty).flatMap a.fieldB = a.body := by
  rw [body126 h, fields126 h]
  simp [AskR.fieldB, List.append_assoc]
theorem bodyF {a : AskR} (hk0 : a.ty = 100 ∨ a.ty = 104 ∨ a.ty = 108 ∨ a.ty = 110 ∨ a.ty = 112 ∨ a.ty = 114 ∨ a.ty = 116 ∨ a.ty = 118 ∨ a.ty = 120 ∨ a.ty = 122 ∨ a.ty = 124 ∨ a.ty = 126) : (fieldsOf a.ty).flatMap a.fieldB = a.body := by
  rcases hk0 with h | h | h | h | h | h | h | h | h | h | h | h
  · exact bodyF100 h
  · exact bodyF104 h
  · exact bodyF108 h
  · exact bodyF110 h
  · exact bodyF112 h
  · exact bodyF114 h
  · exact bodyF116 h
  · exact bodyF118 h
  · exact bodyF120 h
  · exact bodyF122 h
  · exact bodyF124 h
  · exact bodyF126 h
section
variable {H H' : List Block} {S : List (List Block)} {F : List Block} {M' : Mem}
theorem number140 {n : Int} {size : Nat} (hs : size ≤ 8) : AC Try.prog 140 [.int .i64 n, .int .i64 size] ⟨H, S⟩ (NewO H S (le (u64 n) size)) := by
  refine AC_of_WE Try.func140 rfl ?_
  simp only [Try.ntmps140, List.length_cons, List.length_nil, List.replicate, List.cons_append, List.nil_append, mem_enter]
  (repeat refine W_seq ?_); refine W_regionT [] ?_
  simp only [go_sem]
  (repeat refine W_seq ?_); refine W_regionT [] ?_
  simp only [go_sem, ti3, ti23, u64_wrap.1]
  refine AT_call rfl rfl (numB u64_wrap.2 hs) fun v M1 hd1 h1 => ?_
  obtain ⟨G, rfl, u1, b1, l1⟩ := h1
  simp only [go_sem]
  exact W_ret ⟨.inr rfl, _, rfl, OH.lev0' b1, _, rfl, u1, b1, l1⟩
theorem field100 {a : AskR} {vn vd : AV} (f : UInt8) (hn : TH H vn a.names) (hd : BH H vd a.data) (fit : a.Fit) : AC Try.prog 100 [.agg (a.cells vn vd), .int .u8 f.toNat] ⟨H, S⟩ (NewO H S (a.fieldB f)) := by
  refine AC_of_WE Try.func100 rfl ?_
  simp only [Try.ntmps100, List.length_cons, List.length_nil, List.replicate, List.cons_append, List.nil_append, mem_enter]
  have c1 := cells_st (a := a) hn hd
  have fn := fit.n
  have fd := fit.d
  have fl := fit.l
  (repeat refine W_seq ?_); refine W_regionT [] ?_
  simp only [go_sem, kboxL c1, List.nil_append, List.cons_append, List.length_nil, List.length_cons, Nat.zero_add, Nat.reduceAdd]
  (repeat refine W_seq ?_); refine W_regionT [] ?_
  simp only [go_sem]
  (repeat refine W_seq ?_)
  refine W_block ?_
  (repeat refine W_seq ?_); refine W_regionT [] ?_
  simp only [go_sem]
  (repeat refine W_seq ?_)
  refine W_cond_if rfl (fun hb => ?_) (fun hb => ?_)
  · have hk : f = 102 := by simp only [decide_eq_true_eq] at hb; exact UInt8.toNat_inj.1 (by rw [show (102 : UInt8).toNat = 102 from rfl]; omega)
    (repeat refine W_seq ?_); refine W_regionT [] ?_
    simp only [go_sem, ka2_0, kl2_0]
    refine AT_call rfl rfl (number140 (size := 4) (by decide)) fun v M1 hd1 h1 => ?_
    obtain ⟨G1, rfl, u1, b1, l1⟩ := h1
    rw [leU32] at b1
    simp only [go_sem]
    rw [show a.fieldB f = le (u32 a.fid) 4 from by unfold AskR.fieldB; rw [if_pos hk]]
    exact W_ret ⟨.inr rfl, _, rfl, OH.lev0' b1, _, rfl, u1, b1, l1⟩
  · have n102 : ¬ f = 102 := by intro h; subst h; revert hb; decide
    (repeat refine W_seq ?_); refine W_regionT [] ?_
    simp only [go_sem]
    (repeat refine W_seq ?_)
    refine W_cond_if rfl (fun hb => ?_) (fun hb => ?_)
    · have hk : f = 119 := by simp only [decide_eq_true_eq] at hb; exact UInt8.toNat_inj.1 (by rw [show (119 : UInt8).toNat = 119 from rfl]; omega)
      (repeat refine W_seq ?_); refine W_regionT [] ?_
      simp only [go_sem, ka3_0, kl3_0]
      refine AT_call rfl rfl (number140 (size := 4) (by decide)) fun v M1 hd1 h1 => ?_
      obtain ⟨G1, rfl, u1, b1, l1⟩ := h1
      rw [leU32] at b1
      simp only [go_sem]
      rw [show a.fieldB f = le (u32 a.newfid) 4 from by unfold AskR.fieldB; rw [if_neg n102, if_pos hk]]
      exact W_ret ⟨.inr rfl, _, rfl, OH.lev0' b1, _, rfl, u1, b1, l1⟩
    · have n119 : ¬ f = 119 := by intro h; subst h; revert hb; decide
      (repeat refine W_seq ?_); refine W_regionT [] ?_
      simp only [go_sem]
      (repeat refine W_seq ?_)
      refine W_cond_if rfl (fun hb => ?_) (fun hb => ?_)
      · have hk : f = 116 := by simp only [decide_eq_true_eq] at hb; exact UInt8.toNat_inj.1 (by rw [show (116 : UInt8).toNat = 116 from rfl]; omega)
        (repeat refine W_seq ?_); refine W_regionT [] ?_
        simp only [go_sem, ka4_0, kl4_0]
        refine AT_call rfl rfl (number140 (size := 2) (by decide)) fun v M1 hd1 h1 => ?_
        obtain ⟨G1, rfl, u1, b1, l1⟩ := h1
        rw [leU16] at b1
        simp only [go_sem]
        rw [show a.fieldB f = le (u16 a.oldtag) 2 from by unfold AskR.fieldB; rw [if_neg n102, if_neg n119, if_pos hk]]
        exact W_ret ⟨.inr rfl, _, rfl, OH.lev0' b1, _, rfl, u1, b1, l1⟩
      · have n116 : ¬ f = 116 := by intro h; subst h; revert hb; decide
        (repeat refine W_seq ?_); refine W_regionT [] ?_
        simp only [go_sem]
        (repeat refine W_seq ?_)
        refine W_cond_if rfl (fun hb => ?_) (fun hb => ?_)
        · have hk : f = 122 := by simp only [decide_eq_true_eq] at hb; exact UInt8.toNat_inj.1 (by rw [show (122 : UInt8).toNat = 122 from rfl]; omega)
          (repeat refine W_seq ?_); refine W_regionT [] ?_
          simp only [go_sem, ka5_0, kl5_0]
          refine AT_call rfl rfl (number140 (size := 4) (by decide)) fun v M1 hd1 h1 => ?_
          obtain ⟨G1, rfl, u1, b1, l1⟩ := h1
          rw [leU32] at b1
          simp only [go_sem]
          rw [show a.fieldB f = le (u32 a.msize) 4 from by unfold AskR.fieldB; rw [if_neg n102, if_neg n119, if_neg n116, if_pos hk]]
          exact W_ret ⟨.inr rfl, _, rfl, OH.lev0' b1, _, rfl, u1, b1, l1⟩
        · have n122 : ¬ f = 122 := by intro h; subst h; revert hb; decide
          (repeat refine W_seq ?_); refine W_regionT [] ?_
          simp only [go_sem]
          (repeat refine W_seq ?_)
          refine W_cond_if rfl (fun hb => ?_) (fun hb => ?_)
          · have hk : f = 109 := by simp only [decide_eq_true_eq] at hb; exact UInt8.toNat_inj.1 (by rw [show (109 : UInt8).toNat = 109 from rfl]; omega)
            (repeat refine W_seq ?_); refine W_regionT [] ?_
            simp only [go_sem, ka6_0, kl6_0]
            refine AT_call rfl rfl (number140 (size := 1) (by decide)) fun v M1 hd1 h1 => ?_
            obtain ⟨G1, rfl, u1, b1, l1⟩ := h1
            rw [leU8] at b1
            simp only [go_sem]
            rw [show a.fieldB f = le (u8 a.mode) 1 from by unfold AskR.fieldB; rw [if_neg n102, if_neg n119, if_neg n116, if_neg n122, if_pos hk]]
            exact W_ret ⟨.inr rfl, _, rfl, OH.lev0' b1, _, rfl, u1, b1, l1⟩
          · have n109 : ¬ f = 109 := by intro h; subst h; revert hb; decide
            (repeat refine W_seq ?_); refine W_regionT [] ?_
            simp only [go_sem]
            (repeat refine W_seq ?_)
            refine W_cond_if rfl (fun hb => ?_) (fun hb => ?_)
            · have hk : f = 112 := by simp only [decide_eq_true_eq] at hb; exact UInt8.toNat_inj.1 (by rw [show (112 : UInt8).toNat = 112 from rfl]; omega)
              (repeat refine W_seq ?_); refine W_regionT [] ?_
              simp only [go_sem, ka7_0, kl7_0]
              refine AT_call rfl rfl (number140 (size := 4) (by decide)) fun v M1 hd1 h1 => ?_
              obtain ⟨G1, rfl, u1, b1, l1⟩ := h1
              rw [leU32] at b1
              simp only [go_sem]
              rw [show a.fieldB f = le (u32 a.perm) 4 from by unfold AskR.fieldB; rw [if_neg n102, if_neg n119, if_neg n116, if_neg n122, if_neg n109, if_pos hk]]
              exact W_ret ⟨.inr rfl, _, rfl, OH.lev0' b1, _, rfl, u1, b1, l1⟩
            · have n112 : ¬ f = 112 := by intro h; subst h; revert hb; decide
              (repeat refine W_seq ?_); refine W_regionT [] ?_
              simp only [go_sem]
              (repeat refine W_seq ?_)
              refine W_cond_if rfl (fun hb => ?_) (fun hb => ?_)
              · have hk : f = 111 := by simp only [decide_eq_true_eq] at hb; exact UInt8.toNat_inj.1 (by rw [show (111 : UInt8).toNat = 111 from rfl]; omega)
                (repeat refine W_seq ?_); refine W_regionT [] ?_
                simp only [go_sem, ka8_0, kl8_0]
                refine AT_call rfl rfl (number140 (size := 8) (by decide)) fun v M1 hd1 h1 => ?_
                obtain ⟨G1, rfl, u1, b1, l1⟩ := h1
                simp only [go_sem]
                rw [show a.fieldB f = le (u64 a.off) 8 from by unfold AskR.fieldB; rw [if_neg n102, if_neg n119, if_neg n116, if_neg n122, if_neg n109, if_neg n112, if_pos hk]]
                exact W_ret ⟨.inr rfl, _, rfl, OH.lev0' b1, _, rfl, u1, b1, l1⟩
              · have n111 : ¬ f = 111 := by intro h; subst h; revert hb; decide
                (repeat refine W_seq ?_); refine W_regionT [] ?_
                simp only [go_sem]
                (repeat refine W_seq ?_)
                refine W_cond_if rfl (fun hb => ?_) (fun hb => ?_)
                · have hk : f = 99 := by simp only [decide_eq_true_eq] at hb; exact UInt8.toNat_inj.1 (by rw [show (99 : UInt8).toNat = 99 from rfl]; omega)
                  (repeat refine W_seq ?_); refine W_regionT [] ?_
                  simp only [go_sem, ka9_0, kl9_0]
                  refine AT_call rfl rfl (number140 (size := 4) (by decide)) fun v M1 hd1 h1 => ?_
                  obtain ⟨G1, rfl, u1, b1, l1⟩ := h1
                  rw [leU32] at b1
                  simp only [go_sem]
                  rw [show a.fieldB f = le (u32 a.count) 4 from by unfold AskR.fieldB; rw [if_neg n102, if_neg n119, if_neg n116, if_neg n122, if_neg n109, if_neg n112, if_neg n111, if_pos hk]]
                  exact W_ret ⟨.inr rfl, _, rfl, OH.lev0' b1, _, rfl, u1, b1, l1⟩
                · have n99 : ¬ f = 99 := by intro h; subst h; revert hb; decide
                  (repeat refine W_seq ?_); refine W_regionT [] ?_
                  simp only [go_sem]
                  (repeat refine W_seq ?_)
                  refine W_cond_if rfl (fun hb => ?_) (fun hb => ?_)
                  · have hk : f = 115 := by simp only [decide_eq_true_eq] at hb; exact UInt8.toNat_inj.1 (by rw [show (115 : UInt8).toNat = 115 from rfl]; omega)
                    (repeat refine W_seq ?_); refine W_regionT [] ?_
                    simp only [go_sem, ka12_0, kl12_0]
                    refine AT_call rfl rfl (number140 (size := 4) (by decide)) fun v M1 hd1 h1 => ?_
                    obtain ⟨G1, rfl, u1, b1, l1⟩ := h1
                    rw [leU32] at b1
                    simp only [go_sem]
                    rw [show a.fieldB f = le (u32 a.size) 4 from by unfold AskR.fieldB; rw [if_neg n102, if_neg n119, if_neg n116, if_neg n122, if_neg n109, if_neg n112, if_neg n111, if_neg n99, if_pos hk]]
                    exact W_ret ⟨.inr rfl, _, rfl, OH.lev0' b1, _, rfl, u1, b1, l1⟩
                  · have n115 : ¬ f = 115 := by intro h; subst h; revert hb; decide
                    (repeat refine W_seq ?_); refine W_regionT [] ?_
                    simp only [go_sem]
                    (repeat refine W_seq ?_)
                    refine W_cond_if rfl (fun hb => ?_) (fun hb => ?_)
                    · have hk : f = 110 := by simp only [decide_eq_true_eq] at hb; exact UInt8.toNat_inj.1 (by rw [show (110 : UInt8).toNat = 110 from rfl]; omega)
                      (repeat refine W_seq ?_); refine W_regionT [] ?_
                      simp only [go_sem, ka10_0, kl10_0]
                      refine AT_call rfl rfl (rtextB (s := a.name) (by omega)) fun v M1 hd1 h1 => ?_
                      obtain ⟨G1, rfl, u1, b1, l1⟩ := h1
                      simp only [go_sem]
                      rw [show a.fieldB f = le a.name.length 2 ++ a.name from by unfold AskR.fieldB; rw [if_neg n102, if_neg n119, if_neg n116, if_neg n122, if_neg n109, if_neg n112, if_neg n111, if_neg n99, if_neg n115, if_pos hk]]
                      exact W_ret ⟨.inr rfl, _, rfl, OH.lev0' b1, _, rfl, u1, b1, l1⟩
                    · have n110 : ¬ f = 110 := by intro h; subst h; revert hb; decide
                      (repeat refine W_seq ?_); refine W_regionT [] ?_
                      simp only [go_sem]
                      (repeat refine W_seq ?_)
                      refine W_cond_if rfl (fun hb => ?_) (fun hb => ?_)
                      · have hk : f = 100 := by simp only [decide_eq_true_eq] at hb; exact UInt8.toNat_inj.1 (by rw [show (100 : UInt8).toNat = 100 from rfl]; omega)
                        (repeat refine W_seq ?_); refine W_regionT [] ?_
                        simp only [go_sem, ka13_0, kl13_0]
                        refine AT_call rfl rfl (rdataB hd (by omega)) fun v M1 hd1 h1 => ?_
                        obtain ⟨G1, rfl, u1, b1, l1⟩ := h1
                        simp only [go_sem]
                        rw [show a.fieldB f = le a.data.length 4 ++ a.data from by unfold AskR.fieldB; rw [if_neg n102, if_neg n119, if_neg n116, if_neg n122, if_neg n109, if_neg n112, if_neg n111, if_neg n99, if_neg n115, if_neg n110, if_pos hk]]
                        exact W_ret ⟨.inr rfl, _, rfl, OH.lev0' b1, _, rfl, u1, b1, l1⟩
                      · have n100 : ¬ f = 100 := by intro h; subst h; revert hb; decide
                        refine W_skip ?_
                        simp only [go_sem]
                        (repeat refine W_seq ?_); refine W_regionT [] ?_
                        simp only [go_sem, hn.len, ka11_0, kl11_0]
                        refine AT_call rfl rfl (number140 (size := 2) (by decide)) fun v M1 hd1 h1 => ?_
                        obtain ⟨G1, rfl, u1, b1, l1⟩ := h1
                        rw [leU16] at b1
                        simp only [go_sem]
                        (repeat refine W_seq ?_); refine W_regionT [] ?_
                        simp only [go_sem]
                        (repeat refine W_seq ?_)
                        refine W_block (W_loop (L_inv (fun j env M' => ∃ (x0 x1 x3 x4 x7 x8 x9 x10 x11 x12 x13 x14 x15 x16 x17 x18 x19 x20 x21 x22 x23 x24 x25 x26 x27 x28 x29 x30 x31 x32 x33 x34 x35 x36 x37 x38 x39 x40 x41 x42 x43 x44 x45 x46 x47 x48 x49 x50 x51 x52 x53 x54 x55 x56 x57 x58 x59 x60 x61 x62 x63 x64 x65 x66 x67 x68 x69 x70 x71 x72 x73 x74 x75 x76 x77 x78 x79 x80 x81 x82 : AV) (vb : AV) (i : Nat) (G : List Block), env = [x0, x1, .ptr ⟨S.length + 1, 0, 0⟩, x3, x4, vb, .int .i64 i, x7, x8, x9, x10, x11, x12, x13, x14, x15, x16, x17, x18, x19, x20, x21, x22, x23, x24, x25, x26, x27, x28, x29, x30, x31, x32, x33, x34, x35, x36, x37, x38, x39, x40, x41, x42, x43, x44, x45, x46, x47, x48, x49, x50, x51, x52, x53, x54, x55, x56, x57, x58, x59, x60, x61, x62, x63, x64, x65, x66, x67, x68, x69, x70, x71, x72, x73, x74, x75, x76, x77, x78, x79, x80, x81, x82] ∧ i + j = a.names.length ∧ M' = ⟨G, [Block.row ⟨72, 14, AskR.cells a vn vd, false, false⟩] :: S⟩ ∧ UpdH no H G ∧ BO G vb (le (u16 a.names.length) 2 ++ textsOf (a.names.take i)) ∧ ∀ k, vb.loc k → H.length ≤ k) (fun j env M2 => ?_) (a.names.length) ?_))
                        case refine_2 => exact ⟨_, _, _, _, _, _, _, _, _, _, _, _, _, _, _, _, _, _, _, _, _, _, _, _, _, _, _, _, _, _, _, _, _, _, _, _, _, _, _, _, _, _, _, _, _, _, _, _, _, _, _, _, _, _, _, _, _, _, _, _, _, _, _, _, _, _, _, _, _, _, _, _, _, _, _, _, _, _, _, _, _, 0, _, rfl, by omega, rfl, u1, by simpa [textsOf] using b1, l1⟩
                        refine exE fun x0 => exE fun x1 => exE fun x3 => exE fun x4 => exE fun x7 => exE fun x8 => exE fun x9 => exE fun x10 => exE fun x11 => exE fun x12 => exE fun x13 => exE fun x14 => exE fun x15 => exE fun x16 => exE fun x17 => exE fun x18 => exE fun x19 => exE fun x20 => exE fun x21 => exE fun x22 => exE fun x23 => exE fun x24 => exE fun x25 => exE fun x26 => exE fun x27 => exE fun x28 => exE fun x29 => exE fun x30 => exE fun x31 => exE fun x32 => exE fun x33 => exE fun x34 => exE fun x35 => exE fun x36 => exE fun x37 => exE fun x38 => exE fun x39 => exE fun x40 => exE fun x41 => exE fun x42 => exE fun x43 => exE fun x44 => exE fun x45 => exE fun x46 => exE fun x47 => exE fun x48 => exE fun x49 => exE fun x50 => exE fun x51 => exE fun x52 => exE fun x53 => exE fun x54 => exE fun x55 => exE fun x56 => exE fun x57 => exE fun x58 => exE fun x59 => exE fun x60 => exE fun x61 => exE fun x62 => exE fun x63 => exE fun x64 => exE fun x65 => exE fun x66 => exE fun x67 => exE fun x68 => exE fun x69 => exE fun x70 => exE fun x71 => exE fun x72 => exE fun x73 => exE fun x74 => exE fun x75 => exE fun x76 => exE fun x77 => exE fun x78 => exE fun x79 => exE fun x80 => exE fun x81 => exE fun x82 => ?_
                        rintro ⟨vb, i, G, rfl, hij, rfl, uG, bb, hvb⟩
                        (repeat refine W_seq ?_); refine W_regionT [] ?_
                        simp only [go_sem, ka11_0, kl11_0, (hn.new uG).len]
                        (repeat refine W_seq ?_)
                        refine W_cond_if rfl (fun hb => ?_) (fun hb => ?_)
                        · have hi : i < a.names.length := by simpa using hb
                          refine W_skip ?_
                          simp only [go_sem]
                          (repeat refine W_seq ?_)
                          refine W_block ?_
                          have a70 := at70 (S := [Block.row ⟨72, 14, AskR.cells a vn vd, false, false⟩] :: S) (hn.new uG) hi
                          have fs := fit.s _ (List.getElem_mem hi)
                          have ft := texts_len (l := a.names.take i) fun s hs => fit.s s (List.mem_of_mem_take hs)
                          rw [List.length_take] at ft
                          (repeat refine W_seq ?_); refine W_regionT [81] ?_
                          simp only [go_sem, ka11_0, kl11_0, a70.1, a70.2]
                          refine AT_call rfl rfl (rtextB (s := a.names[i]) (by omega)) fun v M1 hd1 h1 => ?_
                          obtain ⟨G2, rfl, u2, b2, l2⟩ := h1
                          obtain ⟨v3, G3, hap, b3, u3, l3⟩ := (bb.new u2).append (S := [Block.row ⟨72, 14, AskR.cells a vn vd, false, false⟩] :: S) b2.bh (by simp [le_length]; omega)
                          rw [List.append_assoc, ← List.append_assoc (textsOf _), ← texts_succ hi] at b3
                          simp only [go_sem, hap]
                          (repeat refine W_seq ?_); refine W_regionT [] ?_
                          simp only [go_sem, show (i : Int) + 1 = ((i + 1 : Nat) : Int) from rfl, wrap_i64 (n := ((i + 1 : Nat) : Int)) (by omega) (by omega)]
                          refine ⟨j - 1, by omega, _, _, _, _, _, _, _, _, _, _, _, _, _, _, _, _, _, _, _, _, _, _, _, _, _, _, _, _, _, _, _, _, _, _, _, _, _, _, _, _, _, _, _, _, _, _, _, _, _, _, _, _, _, _, _, _, _, _, _, _, _, _, _, _, _, _, _, _, _, _, _, _, _, _, _, _, _, _, _, _, v3, i + 1, G3, rfl, by omega, rfl, (uG.then u2 (fun _ _ h => h)).then u3 (fun k hk h => by have := hvb k h; omega), by simpa only [List.append_assoc] using b3, fun k hk => (l3 k hk).elim (hvb k) (fun h => by have := uG.l; have := u2.l; omega)⟩
                        · have hi : a.names.length = i := by simp at hb; omega
                          subst hi
                          (repeat refine W_seq ?_)
                          refine W_exit ?_
                          simp only [go_sem]
                          (repeat refine W_seq ?_); refine W_regionT [] ?_
                          simp only [go_sem]
                          rw [List.take_length] at bb
                          rw [show a.fieldB f = le (u16 a.names.length) 2 ++ textsOf a.names from by unfold AskR.fieldB; rw [if_neg n102, if_neg n119, if_neg n116, if_neg n122, if_neg n109, if_neg n112, if_neg n111, if_neg n99, if_neg n115, if_neg n110, if_neg n100]]
                          exact W_ret ⟨.inr rfl, _, rfl, OH.lev0' bb, _, rfl, uG, bb, hvb⟩
theorem flat_len {a : AskR} (fit : a.Fit) : ∀ (l : List UInt8), (l.flatMap a.fieldB).length ≤ 3000 * l.length
  | [] => by simp
  | f :: l => by
    have h1 := flat_len fit l
    have h2 := fieldB_len fit (f := f)
    rw [List.flatMap_cons, List.length_append, List.length_cons]; omega
theorem flat_succ {a : AskR} {l : List UInt8} {i : Nat} (h : i < l.length) : (l.take (i + 1)).flatMap a.fieldB = (l.take i).flatMap a.fieldB ++ a.fieldB l[i] := by
  rw [List.take_add_one, List.getElem?_eq_getElem h, Option.toList_some, List.flatMap_append, List.flatMap_singleton]
theorem bytes56 {a : AskR} {vn vd : AV} (hn : TH H vn a.names) (hd : BH H vd a.data) (hm : a.may = true) : AC Try.prog 56 [.agg (a.cells vn vd)] ⟨H, S⟩ (NewO H S a.pack) := by
  refine AC_of_WE Try.func56 rfl ?_
  simp only [Try.ntmps56, List.length_cons, List.length_nil, List.replicate, List.cons_append, List.nil_append, mem_enter]
  have c1 := cells_st (a := a) hn hd
  have fit := AskR.fit hm
  have hkn := AskR.known hm
  have htg : 0 ≤ a.tag ∧ a.tag < 65536 := by
    have h := hm
    unfold AskR.may AskR.head inB at h
    simp only [Bool.and_eq_true, decide_eq_true_eq] at h
    omega
  have hty : 0 ≤ a.ty ∧ a.ty < 256 := by omega
  have hsh := fields_short (k := a.ty)
  have hbo := bodyF hkn
  (repeat refine W_seq ?_); refine W_regionT [] ?_
  simp only [go_sem, kboxL c1, List.nil_append, List.cons_append, List.length_nil, List.length_cons, Nat.zero_add, Nat.reduceAdd]
  (repeat refine W_seq ?_); refine W_regionT [] ?_
  simp only [go_sem, ka0_0, ka1_0, ka2_0, ka3_0, ka4_0, ka5_0, ka6_0, ka7_0, ka8_0, ka9_0, ka10_0, ka11_0, ka12_0, ka13_0, kl0_0, kl1_0, kl2_0, kl3_0, kl4_0, kl5_0, kl6_0, kl7_0, kl8_0, kl9_0, kl10_0, kl11_0, kl12_0, kl13_0, kL_0]
  refine AT_call rfl rfl (fields93) fun v M1 hd1 h1 => ?_
  obtain ⟨hv, hM⟩ := h1; subst hv; subst hM
  generalize fieldsOf a.ty = l at hsh hbo ⊢
  simp only [go_sem]
  (repeat refine W_seq ?_); refine W_regionT [] ?_
  simp only [go_sem]
  (repeat refine W_seq ?_); refine W_regionT [] ?_
  simp only [go_sem]
  (repeat refine W_seq ?_)
  refine W_block (W_loop (L_inv (fun j env M' => ∃ (x2 x6 x7 x8 x9 x10 x11 x12 x13 x14 x15 x16 x17 x18 x19 x20 x21 x22 x23 x24 x25 x26 x27 : AV) (vb : AV) (i : Nat) (G : List Block), env = [.agg (a.cells vn vd), .ptr ⟨S.length + 1, 0, 0⟩, x2, .str l, vb, .int .i64 i, x6, x7, x8, x9, x10, x11, x12, x13, x14, x15, x16, x17, x18, x19, x20, x21, x22, x23, x24, x25, x26, x27] ∧ i + j = l.length ∧ M' = ⟨G, [Block.row ⟨72, 14, AskR.cells a vn vd, false, false⟩] :: S⟩ ∧ UpdH no H G ∧ BO G vb ((l.take i).flatMap a.fieldB) ∧ ∀ k, vb.loc k → H.length ≤ k) (fun j env M2 => ?_) (l.length) ?_))
  case refine_2 => exact ⟨_, _, _, _, _, _, _, _, _, _, _, _, _, _, _, _, _, _, _, _, _, _, _, .nilsl, 0, H, rfl, by omega, rfl, UpdH.refl, BO.nil, fun k h => h.elim⟩
  refine exE fun x2 => exE fun x6 => exE fun x7 => exE fun x8 => exE fun x9 => exE fun x10 => exE fun x11 => exE fun x12 => exE fun x13 => exE fun x14 => exE fun x15 => exE fun x16 => exE fun x17 => exE fun x18 => exE fun x19 => exE fun x20 => exE fun x21 => exE fun x22 => exE fun x23 => exE fun x24 => exE fun x25 => exE fun x26 => exE fun x27 => ?_
  rintro ⟨vb, i, G, rfl, hij, rfl, uG, bb, hvb⟩
  (repeat refine W_seq ?_); refine W_regionT [] ?_
  simp only [go_sem, len9]
  (repeat refine W_seq ?_)
  refine W_cond_if rfl (fun hb => ?_) (fun hb => ?_)
  · have hi : i < l.length := by simpa using hb
    refine W_skip ?_
    simp only [go_sem]
    (repeat refine W_seq ?_)
    refine W_block ?_
    have a5 := str_at hi
    have fl1 := flat_len fit (l.take i)
    have fl2 := fieldB_len fit (f := l[i])
    rw [List.length_take] at fl1
    (repeat refine W_seq ?_); refine W_regionC [21] [5, 6] [0, 1, 2, 3, 4, 5, 6, 7] [0, 0, 0, 0, 12, 30, 63, 127] mixedM (by kernel_rfl) (by kernel_rfl) (by kernel_rfl) (by kernel_rfl) ?_
    simp only [listed, go_sem, kL_0, a5]
    refine AT_call rfl rfl (field100 l[i] (hn.new uG) (hd.new uG) fit) fun v M1 hd1 h1 => ?_
    obtain ⟨G2, rfl, u2, b2, l2⟩ := h1
    obtain ⟨v3, G3, hap, b3, u3, l3⟩ := (bb.new u2).append (S := [Block.row ⟨72, 14, AskR.cells a vn vd, false, false⟩] :: S) b2.bh (by omega)
    rw [← flat_succ hi] at b3
    simp only [go_sem, hap]
    (repeat refine W_seq ?_); refine W_regionT [] ?_
    simp only [go_sem, show (i : Int) + 1 = ((i + 1 : Nat) : Int) from rfl, wrap_i64 (n := ((i + 1 : Nat) : Int)) (by omega) (by omega)]
    refine ⟨j - 1, by omega, _, _, _, _, _, _, _, _, _, _, _, _, _, _, _, _, _, _, _, _, _, _, _, v3, i + 1, G3, rfl, by omega, rfl, (uG.then u2 (fun _ _ h => h)).then u3 (fun k hk h => by have := hvb k h; omega), b3, fun k hk => (l3 k hk).elim (hvb k) (fun h => by have := uG.l; have := u2.l; omega)⟩
  · have hi : l.length = i := by simp at hb; omega
    subst hi
    (repeat refine W_seq ?_)
    refine W_exit ?_
    simp only [go_sem]
    (repeat refine W_seq ?_); refine W_regionT [] ?_
    simp only [go_sem, ka0_0, ka1_0, ka2_0, ka3_0, ka4_0, ka5_0, ka6_0, ka7_0, ka8_0, ka9_0, ka10_0, ka11_0, ka12_0, ka13_0, kl0_0, kl1_0, kl2_0, kl3_0, kl4_0, kl5_0, kl6_0, kl7_0, kl8_0, kl9_0, kl10_0, kl11_0, kl12_0, kl13_0, kL_0]
    refine AT_call rfl rfl (rpackB bb.bh (by have := flat_len fit l; rw [List.take_length]; omega) hty htg) fun v M1 hd1 h1 => ?_
    rw [List.take_length, hbo] at h1
    obtain ⟨G4, rfl, u4, b4, l4⟩ := h1
    rw [show le (7 + a.body.length) 4 ++ le (u8 a.ty) 1 ++ le (u16 a.tag) 2 ++ a.body = a.pack from rfl] at b4
    simp only [go_sem]
    exact W_ret ⟨.inr rfl, _, rfl, OH.lev0' b4, _, rfl, uG.then u4 (fun _ _ h => h), b4, fun k hk => Nat.le_trans uG.l (l4 k hk)⟩
theorem QH.one {v : AV} {l : List Req} {i : Nat} (h : QH H v l) (hi : i < l.length) : TH H l[i].2.1 l[i].1.names ∧ BH H l[i].2.2 l[i].1.data := by
  obtain ⟨ix, rfl, h1, h2⟩ := h
  exact h2 _ (List.getElem_mem hi)
theorem good_size {a : AskR} : -9223372036854775808 ≤ a.good.size ∧ a.good.size < 9223372036854775808 := by
  show -9223372036854775808 ≤ (if hasF a.raw.ty 115 then a.raw.size else 0) ∧ (if hasF a.raw.ty 115 then a.raw.size else 0) < 9223372036854775808
  have := around_range (n := a.size) (k := 4294967296) (by decide)
  split
  · show -9223372036854775808 ≤ around a.size 4294967296 - 1 ∧ around a.size 4294967296 - 1 < 9223372036854775808
    omega
  · decide
theorem odd_size {a : AskR} {w n : Int} {s : List UInt8} : (a.odd w n s).size = a.good.size ∨ (a.odd w n s).size = n := by
  unfold AskR.odd
  by_cases h0 : around w 13 = 0
  · exact .inl (by rw [if_pos h0])
  rw [if_neg h0]
  by_cases h1 : around w 13 = 1
  · exact .inl (by rw [if_pos h1])
  rw [if_neg h1]
  by_cases h2 : around w 13 = 2
  · exact .inl (by rw [if_pos h2])
  rw [if_neg h2]
  by_cases h3 : around w 13 = 3
  · exact .inl (by rw [if_pos h3])
  rw [if_neg h3]
  by_cases h4 : around w 13 = 4
  · exact .inl (by rw [if_pos h4])
  rw [if_neg h4]
  by_cases h5 : around w 13 = 5
  · exact .inl (by rw [if_pos h5])
  rw [if_neg h5]
  by_cases h6 : around w 13 = 6
  · exact .inl (by rw [if_pos h6])
  rw [if_neg h6]
  by_cases h7 : around w 13 = 7
  · exact .inl (by rw [if_pos h7])
  rw [if_neg h7]
  by_cases h8 : around w 13 = 8
  · exact .inl (by rw [if_pos h8])
  rw [if_neg h8]
  by_cases h9 : around w 13 = 9
  · exact .inl (by rw [if_pos h9])
  rw [if_neg h9]
  by_cases h10 : around w 13 = 10
  · exact .inr (by rw [if_pos h10])
  rw [if_neg h10]
  by_cases h11 : around w 13 = 11
  · exact .inl (by rw [if_pos h11])
  rw [if_neg h11]
  exact .inl rfl
theorem askMay {a : AskR} {vn vd : AV} {w n : Int} {s : List UInt8} (hn : TH H vn a.names) (hd : BH H vd a.data) (g : a.Rng) (hw : -9223372036854775808 ≤ w ∧ w < 9223372036854775808) (hnn : -9223372036854775808 ≤ n ∧ n < 9223372036854775808) : AC Try.prog 8 [.agg (a.cells vn vd), .int .i64 w, .int .i64 n, .str s] ⟨H, S⟩ (fun v M' => v = .bool true) := by
  refine AC_of_WE Try.func8 rfl ?_
  simp only [Try.ntmps8, List.length_cons, List.length_nil, List.replicate, List.cons_append, List.nil_append, mem_enter]
  have c1 := cells_st (a := a) hn hd
  have gf : a.few.Rng := ⟨g.ty, g.tag, g.fid, g.newfid, g.oldtag, g.msize, g.mode, g.perm, g.off, g.count, g.size⟩
  (repeat refine W_seq ?_); refine W_regionT [] ?_
  simp only [go_sem, kboxL c1, List.nil_append, List.cons_append, List.length_nil, List.length_cons, Nat.zero_add, Nat.reduceAdd]
  (repeat refine W_seq ?_); refine W_regionT [] ?_
  simp only [go_sem, ka0_0, ka1_0, ka2_0, ka3_0, ka4_0, ka5_0, ka6_0, ka7_0, ka8_0, ka9_0, ka10_0, ka11_0, ka12_0, ka13_0, kl0_0, kl1_0, kl2_0, kl3_0, kl4_0, kl5_0, kl6_0, kl7_0, kl8_0, kl9_0, kl10_0, kl11_0, kl12_0, kl13_0, kL_0]
  refine AT_call rfl rfl (few50 hn hd) fun v M1 hd1 h1 => ?_
  obtain ⟨G1, rfl, u1, fn, fd, rfl, p1, q1, _⟩ := h1
  have c2 := cells_st2 a.few (OH1 p1).1 q1.one.1
  simp only [go_sem, kallocL, kS_1 c2, List.nil_append, List.cons_append, List.length_nil, List.length_cons, Nat.zero_add, Nat.reduceAdd]
  (repeat refine W_seq ?_); refine W_regionD [25] [2, 7, 8] [0, 1, 3, 4, 5, 6, 2, 7, 8, 9] [0, 0, 2, 0, 0, 0, 0, 126, 255, 511] mixedM (by kernel_rfl) (by kernel_rfl) (by kernel_rfl) ?_
  simp only [listed, go_sem]
  refine AD_read (v := .agg (a.few.cells fn fd)) (fun M' => M'.get (S.length + 1) 1 = some (Block.row ⟨72, 14, AskR.cells a.few fn fd, false, false⟩)) rfl rfl (fun M' h => by show pureV (loadA Try.prog 72 (.ptr ⟨S.length + 1, 1, 0⟩) M') M' = _; rw [kL h]; rfl) (gt1) ?_
  simp only [go_sem]
  refine AD_read (v := .agg (a.few.cells fn fd)) (fun M' => M'.get (S.length + 1) 1 = some (Block.row ⟨72, 14, AskR.cells a.few fn fd, false, false⟩)) rfl rfl (fun M' h => by show pureV (loadA Try.prog 72 (.ptr ⟨S.length + 1, 1, 0⟩) M') M' = _; rw [kL h]; rfl) (gt1) ?_
  simp only [go_sem]
  refine AD_read (v := .agg (a.few.cells fn fd)) (fun M' => M'.get (S.length + 1) 1 = some (Block.row ⟨72, 14, AskR.cells a.few fn fd, false, false⟩)) rfl rfl (fun M' h => by show pureV (loadA Try.prog 72 (.ptr ⟨S.length + 1, 1, 0⟩) M') M' = _; rw [kL h]; rfl) (gt1) ?_
  simp only [go_sem]
  refine AD_call rfl rfl rfl (good51 p1.rh q1 gf) fun v M1 hd1 h1 => ?_
  obtain ⟨G2, rfl, u2, on2, od2, rfl, p2, q2, _⟩ := h1
  refine ⟨⟨fun _ => gt1, fun _ => gt1, fun _ => gt1, trivial⟩, ?_⟩
  simp only [go_sem]
  refine AD_call rfl rfl rfl (odd52 (p1.new u2).rh (q1.new u2) gf hw) fun v M1 hd1 h1 => ?_
  obtain ⟨G3, rfl, u3, on3, od3, rfl, p3, q3, _⟩ := h1
  refine ⟨⟨fun _ => gt1, fun _ => gt1, fun _ => gt1, trivial⟩, ?_⟩
  simp only [go_sem]
  refine AD_loud (v := .sl ⟨0, G3.length, 0⟩ 3 (some 3)) (M' := ⟨G3 ++ [Block.row ⟨72, 14, [((a.few, fn, fd) : Req), (a.few.good, on2, od2), (a.few.odd w n s, on3, od3)].flatMap Req.cells, false, false⟩], [Block.row ⟨72, 14, AskR.cells a vn vd, false, false⟩, Block.row ⟨72, 14, AskR.cells a.few fn fd, false, false⟩] :: S⟩) rfl (three75 (a := (a.few, fn, fd)) (b := (a.few.good, on2, od2)) (c := (a.few.odd w n s, on3, od3)) (cells_st2 _ (OH1 p1).1 q1.one.1) (cells_st2 _ (OH1 p2).1 q2.one.1) (cells_st2 _ (OH1 p3).1 q3.one.1)) ⟨fun ha => absurd (ha.symm.trans (show ancB _ _ _ _ = true by kernel_rfl)) (by decide), fun ha => absurd (ha.symm.trans (show ancB _ _ _ _ = true by kernel_rfl)) (by decide), fun ha => absurd (ha.symm.trans (show ancB _ _ _ _ = true by kernel_rfl)) (by decide), trivial⟩ ?_
  simp only [go_sem]
  have hq : QH (G3 ++ [Block.row ⟨72, 14, [((a.few, fn, fd) : Req), (a.few.good, on2, od2), (a.few.odd w n s, on3, od3)].flatMap Req.cells, false, false⟩]) (.sl ⟨0, G3.length, 0⟩ 3 (some 3)) [((a.few, fn, fd) : Req), (a.few.good, on2, od2), (a.few.odd w n s, on3, od3)] := by
    refine ⟨G3.length, rfl, List.getElem?_concat_length .., fun t ht => ?_⟩
    simp only [List.mem_cons, List.not_mem_nil, or_false] at ht
    rcases ht with rfl | rfl | rfl
    · exact ⟨(((p1.new u2).new u3).new UpdH.push).rh, ((q1.new u2).new u3).new UpdH.push⟩
    · exact ⟨((p2.new u3).new UpdH.push).rh, (q2.new u3).new UpdH.push⟩
    · exact ⟨(p3.new UpdH.push).rh, q3.new UpdH.push⟩
  have hlen : ∀ t ∈ [((a.few, fn, fd) : Req), (a.few.good, on2, od2), (a.few.odd w n s, on3, od3)], t.1.names.length < 900000 ∧ (-9223372036854775808 ≤ t.1.size ∧ t.1.size < 9223372036854775808) := by
    intro t ht
    simp only [List.mem_cons, List.not_mem_nil, or_false] at ht
    rcases ht with rfl | rfl | rfl
    · refine ⟨?_, g.size⟩
      show ((a.names.take 10).map (List.take 300)).length < 900000
      simp; omega
    · refine ⟨?_, good_size⟩
      have := good_short (a := a.few)
      show a.few.good.names.length < _; omega
    · have := odd_short (a := a.few) (w := w) (n := n) (s := s)
      refine ⟨?_, ?_⟩
      · show (a.few.odd w n s).names.length < _; omega
      · show -9223372036854775808 ≤ (a.few.odd w n s).size ∧ (a.few.odd w n s).size < 9223372036854775808
        rcases odd_size (a := a.few) (w := w) (n := n) (s := s) with h | h <;> rw [h]
        · exact good_size
        · exact hnn
  have hal : [((a.few, fn, fd) : Req), (a.few.good, on2, od2), (a.few.odd w n s, on3, od3)].length = 3 := rfl
  generalize [((a.few, fn, fd) : Req), (a.few.good, on2, od2), (a.few.odd w n s, on3, od3)] = all at hq hlen hal ⊢
  generalize (AV.sl ⟨0, G3.length, 0⟩ 3 (some 3)) = v at hq ⊢
  generalize G3 ++ [Block.row ⟨72, 14, all.flatMap Req.cells, false, false⟩] = G at hq ⊢
  (repeat refine W_seq ?_); refine W_regionT [] ?_
  simp only [go_sem]
  (repeat refine W_seq ?_)
  refine W_block (W_loop (L_inv (fun j env M' => ∃ (x0 x1 x2 x3 x4 x5 x6 x7 x8 x9 x12 x13 x14 x15 x16 x17 x18 x19 x20 x21 x22 x23 x24 x25 x26 x27 x28 x29 x30 x31 x32 x33 x34 x35 x36 x37 x38 x39 x40 x41 x42 x43 x44 x45 x46 x47 x48 x49 x50 x51 x52 x53 x54 x55 x56 x57 x58 x59 x60 x61 x62 x63 x64 x65 x66 x67 x68 x69 x70 x71 x72 x73 x74 x75 x76 x77 x78 x79 x80 x81 : AV) (i : Nat) (G : List Block), env = [x0, x1, x2, x3, x4, x5, x6, x7, x8, x9, v, .int .i64 i, x12, x13, x14, x15, x16, x17, x18, x19, x20, x21, x22, x23, x24, x25, x26, x27, x28, x29, x30, x31, x32, x33, x34, x35, x36, x37, x38, x39, x40, x41, x42, x43, x44, x45, x46, x47, x48, x49, x50, x51, x52, x53, x54, x55, x56, x57, x58, x59, x60, x61, x62, x63, x64, x65, x66, x67, x68, x69, x70, x71, x72, x73, x74, x75, x76, x77, x78, x79, x80, x81] ∧ i + j = 3 ∧ M' = ⟨G, [Block.row ⟨72, 14, AskR.cells a vn vd, false, false⟩, Block.row ⟨72, 14, AskR.cells a.few fn fd, false, false⟩] :: S⟩ ∧ QH G v all) (fun j env M2 => ?_) (3) ?_))
  case refine_2 => exact ⟨_, _, _, _, _, _, _, _, _, _, _, _, _, _, _, _, _, _, _, _, _, _, _, _, _, _, _, _, _, _, _, _, _, _, _, _, _, _, _, _, _, _, _, _, _, _, _, _, _, _, _, _, _, _, _, _, _, _, _, _, _, _, _, _, _, _, _, _, _, _, _, _, _, _, _, _, _, _, _, _, 0, _, rfl, rfl, rfl, hq⟩
  refine exE fun x0 => exE fun x1 => exE fun x2 => exE fun x3 => exE fun x4 => exE fun x5 => exE fun x6 => exE fun x7 => exE fun x8 => exE fun x9 => exE fun x12 => exE fun x13 => exE fun x14 => exE fun x15 => exE fun x16 => exE fun x17 => exE fun x18 => exE fun x19 => exE fun x20 => exE fun x21 => exE fun x22 => exE fun x23 => exE fun x24 => exE fun x25 => exE fun x26 => exE fun x27 => exE fun x28 => exE fun x29 => exE fun x30 => exE fun x31 => exE fun x32 => exE fun x33 => exE fun x34 => exE fun x35 => exE fun x36 => exE fun x37 => exE fun x38 => exE fun x39 => exE fun x40 => exE fun x41 => exE fun x42 => exE fun x43 => exE fun x44 => exE fun x45 => exE fun x46 => exE fun x47 => exE fun x48 => exE fun x49 => exE fun x50 => exE fun x51 => exE fun x52 => exE fun x53 => exE fun x54 => exE fun x55 => exE fun x56 => exE fun x57 => exE fun x58 => exE fun x59 => exE fun x60 => exE fun x61 => exE fun x62 => exE fun x63 => exE fun x64 => exE fun x65 => exE fun x66 => exE fun x67 => exE fun x68 => exE fun x69 => exE fun x70 => exE fun x71 => exE fun x72 => exE fun x73 => exE fun x74 => exE fun x75 => exE fun x76 => exE fun x77 => exE fun x78 => exE fun x79 => exE fun x80 => exE fun x81 => ?_
  rintro ⟨i, G, rfl, hij, rfl, hq⟩
  (repeat refine W_seq ?_); refine W_regionT [] ?_
  simp only [go_sem]
  (repeat refine W_seq ?_)
  refine W_cond_if rfl (fun hb => ?_) (fun hb => ?_)
  · have hi3 : i < 3 := by simp at hb; omega
    refine W_skip ?_
    simp only [go_sem]
    (repeat refine W_seq ?_)
    refine W_block ?_
    have hi : i < all.length := by omega
    obtain ⟨hl9, hsz⟩ := hlen _ (List.getElem_mem hi)
    obtain ⟨tn, td⟩ := hq.one hi
    have a75 := at75 (S := [Block.row ⟨72, 14, AskR.cells a vn vd, false, false⟩, Block.row ⟨72, 14, AskR.cells a.few fn fd, false, false⟩] :: S) hq hi
    (repeat refine W_seq ?_); refine W_regionT [] ?_
    simp only [go_sem, a75.1, a75.2]
    refine AT_call rfl rfl (mayR53 tn td (by omega) hsz) fun v M1 hd1 h1 => ?_
    obtain ⟨hv, hM⟩ := h1; subst hv; subst hM
    simp only [go_sem]
    (repeat refine W_seq ?_); refine W_regionT [] ?_
    simp only [go_sem, a75.1, a75.2]
    refine AT_call rfl rfl (write54 (hq.get hi) hl9) fun v M1 hd1 h1 => ?_
    obtain ⟨G7, vb, rfl, rfl, u7, b7, l7⟩ := h1
    have hq7 := hq.new u7
    have a75' := at75 (S := [Block.row ⟨72, 14, AskR.cells a vn vd, false, false⟩, Block.row ⟨72, 14, AskR.cells a.few fn fd, false, false⟩] :: S) hq7 hi
    simp only [go_sem]
    rcases (show all[i].1.may = true ∨ all[i].1.may = false by cases all[i].1.may <;> simp) with hm | hm
    · rw [hm] at b7
      simp only [if_true] at b7
      (repeat refine W_seq ?_); refine W_regionT [] ?_
      simp only [go_sem, a75'.1, a75'.2, hm, ne_bool ti4 rfl, beq_self_eq_true, Bool.not_true, if_true, Bool.false_eq_true, if_false]
      refine AT_call rfl rfl (may55 (hq7.get hi) hl9) fun v M1 hd1 h1 => ?_
      obtain ⟨hv, G8, rfl, u8⟩ := h1; subst hv
      have hq8 := hq7.new u8
      simp only [go_sem, hm, ne_bool ti4 rfl, beq_self_eq_true, Bool.not_true, Bool.not_false, if_true, Bool.false_eq_true, if_false, (b7.new u8).len]
      (repeat refine W_seq ?_)
      refine W_cond (b := false) rfl ?_
      simp only [Bool.false_eq_true, if_false]
      refine W_skip ?_
      simp only [go_sem]
      (repeat refine W_seq ?_); refine W_regionD [] [8] [0, 1, 2, 3, 4, 5, 6, 7, 8, 9, 10, 11] [0, 1, 3, 7, 3, 3, 51, 115, 243, 499, 1023, 2047] mixedM (by kernel_rfl) (by kernel_rfl) (by kernel_rfl) ?_
      simp only [listed, go_sem, hm, beq_self_eq_true, Bool.not_true]
      refine AD_read (v := .str all[i].1.pack) (fun M' => convA Try.prog 22 9 false vb M' = some (.str all[i].1.pack, M')) rfl rfl (fun M' h => h) ((b7.new u8).text) ?_
      simp only [go_sem, hm, beq_self_eq_true, Bool.not_true]
      refine AD_read (v := idq v i) (fun M' => indexAddrA Try.prog 75 v (.int .i64 i) M' = some (idq v i) ∧ loadA Try.prog 72 (idq v i) M' = some (.agg (all[i].1.cells all[i].2.1 all[i].2.2))) rfl rfl (fun M' h => by show pureV (indexAddrA Try.prog 75 v (.int .i64 i) M') M' = _; rw [h.1]; rfl) (at75 hq8 hi) ?_
      simp only [go_sem, hm, beq_self_eq_true, Bool.not_true]
      refine AD_read (v := .agg (all[i].1.cells all[i].2.1 all[i].2.2)) (fun M' => indexAddrA Try.prog 75 v (.int .i64 i) M' = some (idq v i) ∧ loadA Try.prog 72 (idq v i) M' = some (.agg (all[i].1.cells all[i].2.1 all[i].2.2))) rfl rfl (fun M' h => by show pureV (loadA Try.prog 72 (idq v i) M') M' = _; rw [h.2]; rfl) (at75 hq8 hi) ?_
      simp only [go_sem, hm, beq_self_eq_true, Bool.not_true]
      refine AD_call rfl rfl rfl (bytes56 (hq8.one hi).1 (hq8.one hi).2 hm) fun v M1 hd1 h1 => ?_
      obtain ⟨G9, rfl, u9, b9, l9⟩ := h1
      have hq9 := hq8.new u9
      rename AV => vB
      refine ⟨⟨fun _ => at75 hq9 hi, fun _ => at75 hq9 hi, fun _ => ((b7.new u8).new u9).text, trivial⟩, ?_⟩
      simp only [go_sem]
      refine AD_read (v := .str all[i].1.pack) (fun M' => convA Try.prog 22 9 false vB M' = some (.str all[i].1.pack, M')) rfl rfl (fun M' h => h) (b9.bh.text) ?_
      simp only [go_sem, hm, beq_self_eq_true, Bool.not_true]
      (repeat refine W_seq ?_)
      refine W_cond (b := false) rfl ?_
      simp only [Bool.false_eq_true, if_false]
      refine W_skip ?_
      simp only [go_sem]
      (repeat refine W_seq ?_); refine W_regionT [] ?_
      simp only [go_sem, show (i : Int) + 1 = ((i + 1 : Nat) : Int) from rfl, wrap_i64 (n := ((i + 1 : Nat) : Int)) (by omega) (by omega)]
      refine ⟨j - 1, by omega, _, _, _, _, _, _, _, _, _, _, _, _, _, _, _, _, _, _, _, _, _, _, _, _, _, _, _, _, _, _, _, _, _, _, _, _, _, _, _, _, _, _, _, _, _, _, _, _, _, _, _, _, _, _, _, _, _, _, _, _, _, _, _, _, _, _, _, _, _, _, _, _, _, _, _, _, _, _, _, _, i + 1, _, rfl, by omega, rfl, hq9⟩
    · rw [hm] at b7
      simp only [Bool.false_eq_true, if_false] at b7
      (repeat refine W_seq ?_); refine W_regionT [] ?_
      simp only [go_sem, a75'.1, a75'.2, hm, ne_bool ti4 rfl, beq_self_eq_true, Bool.not_true, if_true, Bool.false_eq_true, if_false]
      refine AT_call rfl rfl (may55 (hq7.get hi) hl9) fun v M1 hd1 h1 => ?_
      obtain ⟨hv, G8, rfl, u8⟩ := h1; subst hv
      have hq8 := hq7.new u8
      simp only [go_sem, hm, ne_bool ti4 rfl, beq_self_eq_true, Bool.not_true, Bool.not_false, if_true, Bool.false_eq_true, if_false, (b7.new u8).len]
      (repeat refine W_seq ?_)
      refine W_cond (b := false) rfl ?_
      simp only [Bool.false_eq_true, if_false]
      refine W_skip ?_
      simp only [go_sem]
      (repeat refine W_seq ?_); refine W_regionD [] [8] [0, 1, 2, 3, 4, 5, 6, 7, 8, 9, 10, 11] [0, 1, 3, 7, 3, 3, 51, 115, 243, 499, 1023, 2047] mixedM (by kernel_rfl) (by kernel_rfl) (by kernel_rfl) ?_
      simp only [listed, go_sem, hm]
      (repeat refine W_seq ?_)
      refine W_cond (b := false) rfl ?_
      simp only [Bool.false_eq_true, if_false]
      refine W_skip ?_
      simp only [go_sem]
      (repeat refine W_seq ?_); refine W_regionT [] ?_
      simp only [go_sem, show (i : Int) + 1 = ((i + 1 : Nat) : Int) from rfl, wrap_i64 (n := ((i + 1 : Nat) : Int)) (by omega) (by omega)]
      refine ⟨j - 1, by omega, _, _, _, _, _, _, _, _, _, _, _, _, _, _, _, _, _, _, _, _, _, _, _, _, _, _, _, _, _, _, _, _, _, _, _, _, _, _, _, _, _, _, _, _, _, _, _, _, _, _, _, _, _, _, _, _, _, _, _, _, _, _, _, _, _, _, _, _, _, _, _, _, _, _, _, _, _, _, _, _, i + 1, _, rfl, by omega, rfl, hq8⟩
  · (repeat refine W_seq ?_)
    refine W_exit ?_
    simp only [go_sem]
    (repeat refine W_seq ?_); refine W_regionT [] ?_
    simp only [go_sem]
    refine AT_call rfl rfl (lives57) fun v M1 hd1 h1 => ?_
    obtain ⟨hv, hM⟩ := h1; subst hv; subst hM
    simp only [go_sem]
    exact W_ret ⟨.inr rfl, _, rfl, rfl, rfl⟩
end
end Go.Proofs.Ytlpcbfndjffpfaa
