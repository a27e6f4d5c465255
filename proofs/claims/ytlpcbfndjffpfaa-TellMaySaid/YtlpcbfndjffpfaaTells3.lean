/- The walk of the reference's Same (18), Room, TellBounds, TellRoom. -/
import Derived.Test.YtlpcbfndjffpfaaTells2
set_option maxRecDepth 100000
set_option maxHeartbeats 4000000
set_option linter.unusedSimpArgs false
set_option linter.unusedVariables false
namespace Go.Proofs.Ytlpcbfndjffpfaa
open Go.Abs
theorem ff9 (a b c d e f g h i : Bool) : (a = false) ∨ (a = true ∧ b = false) ∨ (a = true ∧ b = true ∧ c = false) ∨ (a = true ∧ b = true ∧ c = true ∧ d = false) ∨ (a = true ∧ b = true ∧ c = true ∧ d = true ∧ e = false) ∨ (a = true ∧ b = true ∧ c = true ∧ d = true ∧ e = true ∧ f = false) ∨ (a = true ∧ b = true ∧ c = true ∧ d = true ∧ e = true ∧ f = true ∧ g = false) ∨ (a = true ∧ b = true ∧ c = true ∧ d = true ∧ e = true ∧ f = true ∧ g = true ∧ h = false) ∨ (a = true ∧ b = true ∧ c = true ∧ d = true ∧ e = true ∧ f = true ∧ g = true ∧ h = true ∧ i = false) ∨ (a = true ∧ b = true ∧ c = true ∧ d = true ∧ e = true ∧ f = true ∧ g = true ∧ h = true ∧ i = true) := by
  cases a
  · exact .inl rfl
  · rcases ff8 b c d e f g h i with h | h | h | h | h | h | h | h | h <;> simp [h]
theorem ff10 (a b c d e f g h i j : Bool) : (a = false) ∨ (a = true ∧ b = false) ∨ (a = true ∧ b = true ∧ c = false) ∨ (a = true ∧ b = true ∧ c = true ∧ d = false) ∨ (a = true ∧ b = true ∧ c = true ∧ d = true ∧ e = false) ∨ (a = true ∧ b = true ∧ c = true ∧ d = true ∧ e = true ∧ f = false) ∨ (a = true ∧ b = true ∧ c = true ∧ d = true ∧ e = true ∧ f = true ∧ g = false) ∨ (a = true ∧ b = true ∧ c = true ∧ d = true ∧ e = true ∧ f = true ∧ g = true ∧ h = false) ∨ (a = true ∧ b = true ∧ c = true ∧ d = true ∧ e = true ∧ f = true ∧ g = true ∧ h = true ∧ i = false) ∨ (a = true ∧ b = true ∧ c = true ∧ d = true ∧ e = true ∧ f = true ∧ g = true ∧ h = true ∧ i = true ∧ j = false) ∨ (a = true ∧ b = true ∧ c = true ∧ d = true ∧ e = true ∧ f = true ∧ g = true ∧ h = true ∧ i = true ∧ j = true) := by
  cases a
  · exact .inl rfl
  · rcases ff9 b c d e f g h i j with h | h | h | h | h | h | h | h | h | h <;> simp [h]
theorem zeros_succ {z : List AV} {n : Nat} : zeros z (n + 1) = zeros z n ++ z := by
  unfold zeros
  rw [Nat.add_mul, Nat.one_mul, List.range_add, List.map_append, List.map_map]
  congr 1
  apply List.ext_getElem
  · simp
  · intro k h1 h2
    have hk : k < z.length := h2
    simp [Nat.mod_eq_of_lt hk, List.getD, List.getElem?_eq_getElem hk]
theorem zeros_q : ∀ n : Nat, zeros QidR.z.cells n = (List.replicate n QidR.z).flatMap QidR.cells
  | 0 => rfl
  | n + 1 => by rw [zeros_succ, zeros_q n, List.replicate_succ', List.flatMap_append, List.flatMap_singleton]
section
variable {H H' : List Block} {S : List (List Block)} {M' : Mem}
theorem make86 {n : Nat} (hn : n ≤ 2000) : ∃ v H', makeSliceA Try.prog 86 true (.int .i64 n) (.int .i64 n) ⟨H, S⟩ = some (v, ⟨H', S⟩) ∧ QL H' v (List.replicate n QidR.z) ∧ UpdH no H H' := by
  have hno : ∀ k : IntKind, natOf (.int k (n : Int)) = some n := fun k => by simp [natOf]
  refine ⟨.sl ⟨0, H.length, 0⟩ n (some n), H ++ [.row ⟨85, 3, zeros QidR.z.cells n, false, false⟩], ?_, ⟨.inr ⟨H.length, 0, some n, ⟨85, 3, zeros QidR.z.cells n, false, false⟩, by rw [List.length_replicate], by simp, rfl, ?_, ?_⟩, rfl⟩, UpdH.push⟩
  · unfold makeSliceA
    simp only [ti86, ti85, hno]
    rw [if_pos ⟨Nat.le_refl _, by omega, by omega, rfl, rfl, by decide⟩]
    rfl
  · rw [List.drop_zero, List.take_of_length_le (by rw [zeros_length, List.length_replicate]; exact Nat.le_refl _), zeros_q]
  · exact flat_len_eq (f := QidR.cells) (m := 3) (fun _ => rfl) _
def nameT (s : List UInt8) : TellR := ⟨101, 0, 0, 0, 0, 0, s, QidR.z, [], [], StatR.z⟩
def statT (s : List UInt8) : TellR := ⟨125, 0, 0, 0, 0, 0, [], QidR.z, [], [], ⟨QidR.z, 0, 0, s⟩⟩
def dataT (d : List UInt8) : TellR := ⟨117, 0, 0, 0, 0, 0, [], QidR.z, [], d, StatR.z⟩
def qidsT (l : List QidR) : TellR := ⟨111, 0, 0, 0, 0, 0, [], QidR.z, l, [], StatR.z⟩
theorem bldN90 {s : List UInt8} : buildA Try.prog 90 [(0, .int .i64 101), (6, .str s)] = some (.agg (TellR.cells (nameT s) .nilsl .nilsl)) := by unfold buildA; simp only [ti90]; rfl
theorem bld88 {s : List UInt8} : buildA Try.prog 88 [(3, .str s)] = some (.agg (StatR.cells ⟨QidR.z, 0, 0, s⟩)) := by unfold buildA; simp only [ti88]; rfl
theorem bldS90 {s : List UInt8} : buildA Try.prog 90 [(0, .int .i64 125), (10, .agg (StatR.cells ⟨QidR.z, 0, 0, s⟩))] = some (.agg (TellR.cells (statT s) .nilsl .nilsl)) := by unfold buildA; simp only [ti90]; rfl
theorem bldD90 {v : AV} {d : List UInt8} (h : BH H v d) : buildA Try.prog 90 [(0, .int .i64 117), (9, v)] = some (.agg (TellR.cells (dataT d) .nilsl v)) := by
  rcases h with ⟨rfl, _⟩ | ⟨i, off, c, r, rfl, _⟩ <;> (unfold buildA; simp only [ti90]; rfl)
theorem bldL90 {v : AV} {l : List QidR} (h : QL H v l) : buildA Try.prog 90 [(0, .int .i64 111), (8, v)] = some (.agg (TellR.cells (qidsT l) v .nilsl)) := by
  rcases h.1 with ⟨rfl, _⟩ | ⟨i, off, c, r, rfl, _⟩ <;> (unfold buildA; simp only [ti90]; rfl)
theorem tmay_n {t : Nat} : (nameT (List.replicate t 0)).may = decide ((t : Int) ≤ 255) := by
  have e2 : decide (nameT (List.replicate t 0) = (nameT (List.replicate t 0)).own) = true := decide_eq_true (by rw [town2 (a := nameT (List.replicate t 0)) rfl]; rfl)
  unfold TellR.may
  rw [e2, show tknown (nameT (List.replicate t 0)).ty = true from rfl, Bool.eq_iff_iff]
  simp [nameT, inB, QidR.ok, QidR.z, StatR.z]
  try omega
theorem tmay_s {t : Nat} : (statT (List.replicate t 0)).may = decide ((t : Int) ≤ 255) := by
  have e2 : decide (statT (List.replicate t 0) = (statT (List.replicate t 0)).own) = true := decide_eq_true (by rw [town9 (a := statT (List.replicate t 0)) rfl]; rfl)
  unfold TellR.may
  rw [e2, show tknown (statT (List.replicate t 0)).ty = true from rfl, Bool.eq_iff_iff]
  simp [statT, inB, QidR.ok, QidR.z, StatR.z]
  try omega
theorem tmay_d {t : Nat} : (dataT (List.replicate t 0)).may = decide ((t : Int) ≤ 1024) := by
  have e2 : decide (dataT (List.replicate t 0) = (dataT (List.replicate t 0)).own) = true := decide_eq_true (by rw [town7 (a := dataT (List.replicate t 0)) rfl]; rfl)
  unfold TellR.may
  rw [e2, show tknown (dataT (List.replicate t 0)).ty = true from rfl, Bool.eq_iff_iff]
  simp [dataT, inB, QidR.ok, QidR.z, StatR.z]
  try omega
theorem tmay_q {t : Nat} : (qidsT (List.replicate t QidR.z)).may = decide ((t : Int) ≤ 8) := by
  have e2 : decide (qidsT (List.replicate t QidR.z) = (qidsT (List.replicate t QidR.z)).own) = true := decide_eq_true (by rw [town5 (a := qidsT (List.replicate t QidR.z)) rfl]; rfl)
  have e3 : ((qidsT (List.replicate t QidR.z)).q :: (qidsT (List.replicate t QidR.z)).s.q :: (qidsT (List.replicate t QidR.z)).qids).any (fun q => !q.ok) = false := by
    rw [List.any_eq_false]
    intro q hq
    have hz : q = QidR.z := by
      simp only [qidsT, StatR.z, List.mem_cons, List.mem_replicate] at hq
      rcases hq with h | h | h
      · exact h
      · exact h
      · exact h.2
    rw [hz]; decide
  unfold TellR.may
  rw [e2, e3, show tknown (qidsT (List.replicate t QidR.z)).ty = true from rfl, Bool.eq_iff_iff]
  simp [qidsT, inB, QidR.z, StatR.z]
  try omega
theorem tellBounds {n m k : Int} (hn : -9223372036854775808 ≤ n ∧ n < 9223372036854775808) (hm : -9223372036854775808 ≤ m ∧ m < 9223372036854775808) (hk : -9223372036854775808 ≤ k ∧ k < 9223372036854775808) : AC Try.prog 12 [.int .i64 n, .int .i64 m, .int .i64 k] ⟨H, S⟩ (fun v M' => v = .bool true) := by
  refine AC_of_WE Try.func12 rfl ?_
  simp only [Try.ntmps12, List.length_cons, List.length_nil, List.replicate, List.cons_append, List.nil_append, mem_enter]
  (repeat refine W_seq ?_); refine W_regionT [] ?_
  simp only [go_sem]
  (repeat refine W_seq ?_); refine W_regionT [] ?_
  simp only [go_sem]
  refine AT_call rfl rfl (aroundF hn.1 hn.2 (by decide)) fun v M1 hd1 h1 => ?_
  obtain ⟨hv, hM⟩ := h1
  have hrn := around_range (n := n) (k := 11) (by decide)
  generalize around n 11 = rn at hv hrn
  subst hv; subst hM
  obtain ⟨tn, htn⟩ : ∃ t : Nat, 250 + rn = t := ⟨(250 + rn).toNat, by omega⟩
  have en : IntKind.wrap .i64 (tn : Int) = (tn : Int) := wrap_i64 (by omega) (by omega)
  simp only [go_sem, en, htn]
  (repeat refine W_seq ?_); refine W_regionT [] ?_
  simp only [go_sem]
  refine AT_call rfl rfl (aroundF hm.1 hm.2 (by decide)) fun v M1 hd1 h1 => ?_
  obtain ⟨hv, hM⟩ := h1
  have hrm := around_range (n := m) (k := 11) (by decide)
  generalize around m 11 = rm at hv hrm
  subst hv; subst hM
  obtain ⟨tm, htm⟩ : ∃ t : Nat, 1020 + rm = t := ⟨(1020 + rm).toNat, by omega⟩
  have em : IntKind.wrap .i64 (tm : Int) = (tm : Int) := wrap_i64 (by omega) (by omega)
  simp only [go_sem, em, htm]
  (repeat refine W_seq ?_); refine W_regionT [] ?_
  simp only [go_sem]
  refine AT_call rfl rfl (aroundF hk.1 hk.2 (by decide)) fun v M1 hd1 h1 => ?_
  obtain ⟨hv, hM⟩ := h1
  have hrk := around_range (n := k) (k := 11) (by decide)
  generalize around k 11 = rk at hv hrk
  subst hv; subst hM
  obtain ⟨tk, htk⟩ : ∃ t : Nat, rk = t := ⟨(rk).toNat, by omega⟩
  have ek : IntKind.wrap .i64 (tk : Int) = (tk : Int) := wrap_i64 (by omega) (by omega)
  simp only [go_sem, ek, htk]
  obtain ⟨v4, H4, a4, b4, u4⟩ := make22 (H := H) (S := [] :: S) (n := tn) (by omega)
  (repeat refine W_seq ?_); refine W_regionT [24] ?_
  simp only [go_sem, a4, b4.text]
  (repeat refine W_seq ?_); refine W_regionT [] ?_
  simp only [go_sem, bldN90]
  refine AT_call rfl rfl (may65 (a := nameT (List.replicate tn 0)) ⟨.nilsl, .nilsl, rfl, QL.nil, BH.nil⟩ (by simp [nameT])) fun v M1 hd1 h1 => ?_
  obtain ⟨hv, H5, rfl, u5⟩ := h1; rw [tmay_n] at hv; subst hv
  simp only [go_sem]
  (repeat refine W_seq ?_); refine W_regionT [] ?_
  simp only [go_sem, bld88, bldS90]
  refine AT_call rfl rfl (may65 (a := statT (List.replicate tn 0)) ⟨.nilsl, .nilsl, rfl, QL.nil, BH.nil⟩ (by simp [statT])) fun v M1 hd1 h1 => ?_
  obtain ⟨hv, H6, rfl, u6⟩ := h1; rw [tmay_s] at hv; subst hv
  simp only [go_sem]
  obtain ⟨v7, H7', a7, b7, u7⟩ := make22 (H := H6) (S := [] :: S) (n := tm) (by omega)
  have d7 := bldD90 b7
  (repeat refine W_seq ?_); refine W_regionT [34] ?_
  simp only [go_sem, a7, d7]
  refine AT_call rfl rfl (may65 (a := dataT (List.replicate tm 0)) ⟨.nilsl, _, rfl, QL.nil, b7⟩ (by simp [dataT])) fun v M1 hd1 h1 => ?_
  obtain ⟨hv, H7, rfl, u7⟩ := h1; rw [tmay_d] at hv; subst hv
  simp only [go_sem]
  obtain ⟨v8, H8', a8, b8, u8⟩ := make86 (H := H7) (S := [] :: S) (n := tk) (by omega)
  have d8 := bldL90 b8
  (repeat refine W_seq ?_); refine W_regionT [38] ?_
  simp only [go_sem, a8, d8]
  refine AT_call rfl rfl (may65 (a := qidsT (List.replicate tk QidR.z)) ⟨_, .nilsl, rfl, b8, BH.nil⟩ (by simp [qidsT]; omega)) fun v M1 hd1 h1 => ?_
  obtain ⟨hv, H8, rfl, u8⟩ := h1; rw [tmay_q] at hv; subst hv
  simp only [go_sem]
  (repeat refine W_seq ?_); refine W_regionT [] ?_
  simp only [go_sem]
  refine AT_call rfl rfl (lives67) fun v M1 hd1 h1 => ?_
  obtain ⟨hv, hM⟩ := h1; subst hv; subst hM
  simp only [go_sem]
  exact W_ret ⟨.inr rfl, _, rfl, rfl, rfl⟩
theorem tsame_eq2 {a b : TellR} : decide (a = b) = (decide (a.qids = b.qids) && (decide (a.ty = b.ty) && decide (a.tag = b.tag) && decide (a.code = b.code) && decide (a.msize = b.msize) && decide (a.iounit = b.iounit) && decide (a.count = b.count) && (a.name == b.name) && decide (a.q = b.q) && decide (a.s = b.s) && (a.data == b.data))) := by
  rw [tsame_eq]; ac_rfl
theorem same69 {v w : AV} {a b : TellR} (ha : TellV H v a) (hb0 : TellV H w b) (hl : a.qids.length < 1000000) : AC Try.prog 69 [v, w] ⟨H, S⟩ (fun x M' => x = .bool (decide (a = b)) ∧ M' = ⟨H, S⟩) := by
  refine AC_of_WE Try.func69 rfl ?_
  simp only [Try.ntmps69, List.length_cons, List.length_nil, List.replicate, List.cons_append, List.nil_append, mem_enter]
  obtain ⟨vn, vd, rfl, hn, hd⟩ := ha
  obtain ⟨wn, wd, rfl, hn2, hd2⟩ := hb0
  have st1 := tcells_st a hn.one.1 hd.one.1
  have st2 := tcells_st b hn2.one.1 hd2.one.1
  (repeat refine W_seq ?_); refine W_regionT [] ?_
  simp only [go_sem, wboxL st1, wboxL st2, List.nil_append, List.cons_append, List.length_nil, List.length_cons, Nat.zero_add, Nat.reduceAdd]
  rcases (show ¬ a.qids.length = b.qids.length ∨ a.qids.length = b.qids.length by omega) with hne | hne
  · have hc : ¬ (a.qids.length : Int) = (b.qids.length : Int) := by omega
    (repeat refine W_seq ?_); refine W_regionT [] ?_
    simp only [go_sem, hn.len, hn2.len, hc, wa0_0, wa1_0, wa2_0, wa3_0, wa4_0, wa5_0, wa6_0, wa7_0, wa8_0, wa9_0, wa10_0, wa88_12_0, wa88_15_0, wa88_16_0, wa88_17_0, wa85_7_0, wa85_8_0, wa85_9_0, wa85_13_0, wa85_14_0, wl0_0, wl1_0, wl2_0, wl3_0, wl4_0, wl5_0, wl6_0, wl7_0, wl8_0, wl9_0, wl10_0, wl11_0, wl12_0, wl13_0, wl14_0, wl15_0, wl16_0, wl17_0, wl7g85_0, wl12g85_0, wl12g88_0, wL_0, wa0_1, wa1_1, wa2_1, wa3_1, wa4_1, wa5_1, wa6_1, wa7_1, wa8_1, wa9_1, wa10_1, wa88_12_1, wa88_15_1, wa88_16_1, wa88_17_1, wa85_7_1, wa85_8_1, wa85_9_1, wa85_13_1, wa85_14_1, wl0_1, wl1_1, wl2_1, wl3_1, wl4_1, wl5_1, wl6_1, wl7_1, wl8_1, wl9_1, wl10_1, wl11_1, wl12_1, wl13_1, wl14_1, wl15_1, wl16_1, wl17_1, wl7g85_1, wl12g85_1, wl12g88_1, wL_1]
    (repeat refine W_seq ?_)
    refine W_cond (b := true) rfl ?_
    simp only [if_true]
    (repeat refine W_seq ?_); refine W_regionT [] ?_
    simp only [go_sem]
    refine W_ret ⟨.inr rfl, _, rfl, rfl, ?_, rfl⟩
    rw [show decide (a = b) = false from decide_eq_false (fun h => hne (by rw [h]))]; rfl
  · have hc : (a.qids.length : Int) = (b.qids.length : Int) := by omega
    (repeat refine W_seq ?_); refine W_regionT [] ?_
    simp only [go_sem, hn.len, hn2.len, hc, wa0_0, wa1_0, wa2_0, wa3_0, wa4_0, wa5_0, wa6_0, wa7_0, wa8_0, wa9_0, wa10_0, wa88_12_0, wa88_15_0, wa88_16_0, wa88_17_0, wa85_7_0, wa85_8_0, wa85_9_0, wa85_13_0, wa85_14_0, wl0_0, wl1_0, wl2_0, wl3_0, wl4_0, wl5_0, wl6_0, wl7_0, wl8_0, wl9_0, wl10_0, wl11_0, wl12_0, wl13_0, wl14_0, wl15_0, wl16_0, wl17_0, wl7g85_0, wl12g85_0, wl12g88_0, wL_0, wa0_1, wa1_1, wa2_1, wa3_1, wa4_1, wa5_1, wa6_1, wa7_1, wa8_1, wa9_1, wa10_1, wa88_12_1, wa88_15_1, wa88_16_1, wa88_17_1, wa85_7_1, wa85_8_1, wa85_9_1, wa85_13_1, wa85_14_1, wl0_1, wl1_1, wl2_1, wl3_1, wl4_1, wl5_1, wl6_1, wl7_1, wl8_1, wl9_1, wl10_1, wl11_1, wl12_1, wl13_1, wl14_1, wl15_1, wl16_1, wl17_1, wl7g85_1, wl12g85_1, wl12g88_1, wL_1]
    (repeat refine W_seq ?_)
    refine W_cond (b := false) rfl ?_
    simp only [Bool.false_eq_true, if_false]
    refine W_skip ?_
    simp only [go_sem]
    (repeat refine W_seq ?_); refine W_regionT [] ?_
    simp only [go_sem]
    (repeat refine W_seq ?_)
    refine W_block (W_loop (L_inv (fun j env M' => ∃ (x4 x6 x7 x8 x9 x10 x11 x12 x13 x14 x15 x16 x17 x18 x19 x20 x21 x22 x23 x24 x25 x26 x27 x28 x29 x30 x31 x32 x33 x34 x35 x36 x37 x38 x39 x40 x41 x42 x43 x44 x45 x46 x47 x48 x49 x50 x51 x52 x53 x54 x55 x56 x57 x58 x59 x60 x61 x62 x63 x64 x65 x66 x67 x68 x69 x70 x71 x72 x73 x74 x75 x76 x77 x78 x79 x80 x81 x82 x83 x84 x85 x86 x87 x88 x89 x90 x91 x92 x93 x94 x95 x96 x97 x98 x99 x100 : AV) (i : Nat), env = [.agg (a.cells vn vd), .agg (b.cells wn wd), .ptr ⟨S.length + 1, 0, 0⟩, .ptr ⟨S.length + 1, 1, 0⟩, x4, .int .i64 i, x6, x7, x8, x9, x10, x11, x12, x13, x14, x15, x16, x17, x18, x19, x20, x21, x22, x23, x24, x25, x26, x27, x28, x29, x30, x31, x32, x33, x34, x35, x36, x37, x38, x39, x40, x41, x42, x43, x44, x45, x46, x47, x48, x49, x50, x51, x52, x53, x54, x55, x56, x57, x58, x59, x60, x61, x62, x63, x64, x65, x66, x67, x68, x69, x70, x71, x72, x73, x74, x75, x76, x77, x78, x79, x80, x81, x82, x83, x84, x85, x86, x87, x88, x89, x90, x91, x92, x93, x94, x95, x96, x97, x98, x99, x100] ∧ i + j = a.qids.length ∧ M' = ⟨H, [.row ⟨90, 18, a.cells vn vd, false, false⟩, .row ⟨90, 18, b.cells wn wd, false, false⟩] :: S⟩ ∧ ∀ m, m < i → a.qids[m]? = b.qids[m]?) (fun j env M2 => ?_) (a.qids.length) ?_))
    case refine_2 => exact ⟨_, _, _, _, _, _, _, _, _, _, _, _, _, _, _, _, _, _, _, _, _, _, _, _, _, _, _, _, _, _, _, _, _, _, _, _, _, _, _, _, _, _, _, _, _, _, _, _, _, _, _, _, _, _, _, _, _, _, _, _, _, _, _, _, _, _, _, _, _, _, _, _, _, _, _, _, _, _, _, _, _, _, _, _, _, _, _, _, _, _, _, _, _, _, _, _, 0, rfl, by omega, rfl, fun m hm => by omega⟩
    refine exE fun x4 => exE fun x6 => exE fun x7 => exE fun x8 => exE fun x9 => exE fun x10 => exE fun x11 => exE fun x12 => exE fun x13 => exE fun x14 => exE fun x15 => exE fun x16 => exE fun x17 => exE fun x18 => exE fun x19 => exE fun x20 => exE fun x21 => exE fun x22 => exE fun x23 => exE fun x24 => exE fun x25 => exE fun x26 => exE fun x27 => exE fun x28 => exE fun x29 => exE fun x30 => exE fun x31 => exE fun x32 => exE fun x33 => exE fun x34 => exE fun x35 => exE fun x36 => exE fun x37 => exE fun x38 => exE fun x39 => exE fun x40 => exE fun x41 => exE fun x42 => exE fun x43 => exE fun x44 => exE fun x45 => exE fun x46 => exE fun x47 => exE fun x48 => exE fun x49 => exE fun x50 => exE fun x51 => exE fun x52 => exE fun x53 => exE fun x54 => exE fun x55 => exE fun x56 => exE fun x57 => exE fun x58 => exE fun x59 => exE fun x60 => exE fun x61 => exE fun x62 => exE fun x63 => exE fun x64 => exE fun x65 => exE fun x66 => exE fun x67 => exE fun x68 => exE fun x69 => exE fun x70 => exE fun x71 => exE fun x72 => exE fun x73 => exE fun x74 => exE fun x75 => exE fun x76 => exE fun x77 => exE fun x78 => exE fun x79 => exE fun x80 => exE fun x81 => exE fun x82 => exE fun x83 => exE fun x84 => exE fun x85 => exE fun x86 => exE fun x87 => exE fun x88 => exE fun x89 => exE fun x90 => exE fun x91 => exE fun x92 => exE fun x93 => exE fun x94 => exE fun x95 => exE fun x96 => exE fun x97 => exE fun x98 => exE fun x99 => exE fun x100 => ?_
    rintro ⟨i, rfl, hij, rfl, heq⟩
    (repeat refine W_seq ?_); refine W_regionT [] ?_
    simp only [go_sem, hn.len, wa0_0, wa1_0, wa2_0, wa3_0, wa4_0, wa5_0, wa6_0, wa7_0, wa8_0, wa9_0, wa10_0, wa88_12_0, wa88_15_0, wa88_16_0, wa88_17_0, wa85_7_0, wa85_8_0, wa85_9_0, wa85_13_0, wa85_14_0, wl0_0, wl1_0, wl2_0, wl3_0, wl4_0, wl5_0, wl6_0, wl7_0, wl8_0, wl9_0, wl10_0, wl11_0, wl12_0, wl13_0, wl14_0, wl15_0, wl16_0, wl17_0, wl7g85_0, wl12g85_0, wl12g88_0, wL_0, wa0_1, wa1_1, wa2_1, wa3_1, wa4_1, wa5_1, wa6_1, wa7_1, wa8_1, wa9_1, wa10_1, wa88_12_1, wa88_15_1, wa88_16_1, wa88_17_1, wa85_7_1, wa85_8_1, wa85_9_1, wa85_13_1, wa85_14_1, wl0_1, wl1_1, wl2_1, wl3_1, wl4_1, wl5_1, wl6_1, wl7_1, wl8_1, wl9_1, wl10_1, wl11_1, wl12_1, wl13_1, wl14_1, wl15_1, wl16_1, wl17_1, wl7g85_1, wl12g85_1, wl12g88_1, wL_1]
    (repeat refine W_seq ?_)
    refine W_cond_if rfl (fun hb => ?_) (fun hb => ?_)
    · have hi : i < a.qids.length := by simpa using hb
      refine W_skip ?_
      simp only [go_sem]
      (repeat refine W_seq ?_)
      refine W_block ?_
      rcases (Classical.em (a.qids[i] = (b.qids[i]'(by omega)))) with hx | hx
      · have hx' : decide (a.qids[i] = (b.qids[i]'(by omega))) = true := decide_eq_true hx
        have heq' : ∀ m, m < i + 1 → a.qids[m]? = b.qids[m]? := fun m hm => by
          rcases Nat.lt_or_ge m i with h | h
          · exact heq m h
          · have : m = i := by omega
            subst this
            rw [List.getElem?_eq_getElem hi, List.getElem?_eq_getElem (show m < b.qids.length by omega), hx]
        have hir : i < b.qids.length := by omega
        have a1 := at86 (S := [.row ⟨90, 18, a.cells vn vd, false, false⟩, .row ⟨90, 18, b.cells wn wd, false, false⟩] :: S) hn hi
        have a2 := at86 (S := [.row ⟨90, 18, a.cells vn vd, false, false⟩, .row ⟨90, 18, b.cells wn wd, false, false⟩] :: S) hn2 hir
        (repeat refine W_seq ?_); refine W_regionC [] [] [0, 1, 2, 3, 4, 5, 6, 7, 8, 9, 10] [0, 1, 0, 7, 15, 0, 32, 0, 224, 480, 1023] mixedM (by kernel_rfl) (by kernel_rfl) (by kernel_rfl) (by kernel_rfl) ?_
        simp only [listed, go_sem, a1.1, a1.2, a2.1, a2.2, bne85, hx', wa0_0, wa1_0, wa2_0, wa3_0, wa4_0, wa5_0, wa6_0, wa7_0, wa8_0, wa9_0, wa10_0, wa88_12_0, wa88_15_0, wa88_16_0, wa88_17_0, wa85_7_0, wa85_8_0, wa85_9_0, wa85_13_0, wa85_14_0, wl0_0, wl1_0, wl2_0, wl3_0, wl4_0, wl5_0, wl6_0, wl7_0, wl8_0, wl9_0, wl10_0, wl11_0, wl12_0, wl13_0, wl14_0, wl15_0, wl16_0, wl17_0, wl7g85_0, wl12g85_0, wl12g88_0, wL_0, wa0_1, wa1_1, wa2_1, wa3_1, wa4_1, wa5_1, wa6_1, wa7_1, wa8_1, wa9_1, wa10_1, wa88_12_1, wa88_15_1, wa88_16_1, wa88_17_1, wa85_7_1, wa85_8_1, wa85_9_1, wa85_13_1, wa85_14_1, wl0_1, wl1_1, wl2_1, wl3_1, wl4_1, wl5_1, wl6_1, wl7_1, wl8_1, wl9_1, wl10_1, wl11_1, wl12_1, wl13_1, wl14_1, wl15_1, wl16_1, wl17_1, wl7g85_1, wl12g85_1, wl12g88_1, wL_1]
        (repeat refine W_seq ?_)
        refine W_cond (b := false) rfl ?_
        simp only [Bool.false_eq_true, if_false]
        refine W_skip ?_
        simp only [go_sem]
        (repeat refine W_seq ?_); refine W_regionT [] ?_
        simp only [go_sem, show (i : Int) + 1 = ((i + 1 : Nat) : Int) from rfl, wrap_i64 (n := ((i + 1 : Nat) : Int)) (by omega) (by omega)]
        refine ⟨j - 1, by omega, _, _, _, _, _, _, _, _, _, _, _, _, _, _, _, _, _, _, _, _, _, _, _, _, _, _, _, _, _, _, _, _, _, _, _, _, _, _, _, _, _, _, _, _, _, _, _, _, _, _, _, _, _, _, _, _, _, _, _, _, _, _, _, _, _, _, _, _, _, _, _, _, _, _, _, _, _, _, _, _, _, _, _, _, _, _, _, _, _, _, _, _, _, _, _, _, i + 1, rfl, by omega, trivial, heq'⟩
      · have hx' : decide (a.qids[i] = (b.qids[i]'(by omega))) = false := decide_eq_false hx
        have hir : i < b.qids.length := by omega
        have a1 := at86 (S := [.row ⟨90, 18, a.cells vn vd, false, false⟩, .row ⟨90, 18, b.cells wn wd, false, false⟩] :: S) hn hi
        have a2 := at86 (S := [.row ⟨90, 18, a.cells vn vd, false, false⟩, .row ⟨90, 18, b.cells wn wd, false, false⟩] :: S) hn2 hir
        (repeat refine W_seq ?_); refine W_regionC [] [] [0, 1, 2, 3, 4, 5, 6, 7, 8, 9, 10] [0, 1, 0, 7, 15, 0, 32, 0, 224, 480, 1023] mixedM (by kernel_rfl) (by kernel_rfl) (by kernel_rfl) (by kernel_rfl) ?_
        simp only [listed, go_sem, a1.1, a1.2, a2.1, a2.2, bne85, hx', wa0_0, wa1_0, wa2_0, wa3_0, wa4_0, wa5_0, wa6_0, wa7_0, wa8_0, wa9_0, wa10_0, wa88_12_0, wa88_15_0, wa88_16_0, wa88_17_0, wa85_7_0, wa85_8_0, wa85_9_0, wa85_13_0, wa85_14_0, wl0_0, wl1_0, wl2_0, wl3_0, wl4_0, wl5_0, wl6_0, wl7_0, wl8_0, wl9_0, wl10_0, wl11_0, wl12_0, wl13_0, wl14_0, wl15_0, wl16_0, wl17_0, wl7g85_0, wl12g85_0, wl12g88_0, wL_0, wa0_1, wa1_1, wa2_1, wa3_1, wa4_1, wa5_1, wa6_1, wa7_1, wa8_1, wa9_1, wa10_1, wa88_12_1, wa88_15_1, wa88_16_1, wa88_17_1, wa85_7_1, wa85_8_1, wa85_9_1, wa85_13_1, wa85_14_1, wl0_1, wl1_1, wl2_1, wl3_1, wl4_1, wl5_1, wl6_1, wl7_1, wl8_1, wl9_1, wl10_1, wl11_1, wl12_1, wl13_1, wl14_1, wl15_1, wl16_1, wl17_1, wl7g85_1, wl12g85_1, wl12g88_1, wL_1]
        (repeat refine W_seq ?_)
        refine W_cond (b := true) rfl ?_
        simp only [if_true]
        (repeat refine W_seq ?_); refine W_regionT [] ?_
        simp only [go_sem]
        refine W_ret ⟨.inr rfl, _, rfl, rfl, ?_, rfl⟩
        rw [show decide (a = b) = false from decide_eq_false (fun h => hx (by subst h; rfl))]; rfl
    · have hi : a.qids.length = i := by simp at hb; omega
      rw [← hi] at heq
      have heqs : decide (a.qids = b.qids) = true := by
        apply decide_eq_true
        apply List.ext_getElem?
        intro m
        rcases Nat.lt_or_ge m a.qids.length with hm | hm
        · exact heq m hm
        · rw [List.getElem?_eq_none hm, List.getElem?_eq_none (by omega)]
      (repeat refine W_seq ?_)
      refine W_exit ?_
      simp only [go_sem]
      rcases ff10 (decide (a.ty = b.ty)) (decide (a.tag = b.tag)) (decide (a.code = b.code)) (decide (a.msize = b.msize)) (decide (a.iounit = b.iounit)) (decide (a.count = b.count)) ((a.name == b.name)) (decide (a.q = b.q)) (decide (a.s = b.s)) ((a.data == b.data)) with Q | Q | Q | Q | Q | Q | Q | Q | Q | Q | Q
      · simp only [List.append_eq, List.cons_append, List.nil_append]
        (repeat refine W_seq ?_); refine W_regionT [] ?_
        simp (maxSteps := 1000000) only [go_sem, Q, beq85, beq88, hd.text, hd2.text, wa0_0, wa1_0, wa2_0, wa3_0, wa4_0, wa5_0, wa6_0, wa7_0, wa8_0, wa9_0, wa10_0, wa88_12_0, wa88_15_0, wa88_16_0, wa88_17_0, wa85_7_0, wa85_8_0, wa85_9_0, wa85_13_0, wa85_14_0, wl0_0, wl1_0, wl2_0, wl3_0, wl4_0, wl5_0, wl6_0, wl7_0, wl8_0, wl9_0, wl10_0, wl11_0, wl12_0, wl13_0, wl14_0, wl15_0, wl16_0, wl17_0, wl7g85_0, wl12g85_0, wl12g88_0, wL_0, wa0_1, wa1_1, wa2_1, wa3_1, wa4_1, wa5_1, wa6_1, wa7_1, wa8_1, wa9_1, wa10_1, wa88_12_1, wa88_15_1, wa88_16_1, wa88_17_1, wa85_7_1, wa85_8_1, wa85_9_1, wa85_13_1, wa85_14_1, wl0_1, wl1_1, wl2_1, wl3_1, wl4_1, wl5_1, wl6_1, wl7_1, wl8_1, wl9_1, wl10_1, wl11_1, wl12_1, wl13_1, wl14_1, wl15_1, wl16_1, wl17_1, wl7g85_1, wl12g85_1, wl12g88_1, wL_1]
        refine W_ret ⟨.inr rfl, _, rfl, rfl, ?_, rfl⟩
        rw [tsame_eq2, heqs]; simp only [Q, Bool.and_true, Bool.true_and, Bool.false_and, Bool.and_false, Bool.not_true, Bool.not_false]; rfl
      · simp only [List.append_eq, List.cons_append, List.nil_append]
        (repeat refine W_seq ?_); refine W_regionT [] ?_
        simp (maxSteps := 1000000) only [go_sem, Q, beq85, beq88, hd.text, hd2.text, wa0_0, wa1_0, wa2_0, wa3_0, wa4_0, wa5_0, wa6_0, wa7_0, wa8_0, wa9_0, wa10_0, wa88_12_0, wa88_15_0, wa88_16_0, wa88_17_0, wa85_7_0, wa85_8_0, wa85_9_0, wa85_13_0, wa85_14_0, wl0_0, wl1_0, wl2_0, wl3_0, wl4_0, wl5_0, wl6_0, wl7_0, wl8_0, wl9_0, wl10_0, wl11_0, wl12_0, wl13_0, wl14_0, wl15_0, wl16_0, wl17_0, wl7g85_0, wl12g85_0, wl12g88_0, wL_0, wa0_1, wa1_1, wa2_1, wa3_1, wa4_1, wa5_1, wa6_1, wa7_1, wa8_1, wa9_1, wa10_1, wa88_12_1, wa88_15_1, wa88_16_1, wa88_17_1, wa85_7_1, wa85_8_1, wa85_9_1, wa85_13_1, wa85_14_1, wl0_1, wl1_1, wl2_1, wl3_1, wl4_1, wl5_1, wl6_1, wl7_1, wl8_1, wl9_1, wl10_1, wl11_1, wl12_1, wl13_1, wl14_1, wl15_1, wl16_1, wl17_1, wl7g85_1, wl12g85_1, wl12g88_1, wL_1]
        refine W_ret ⟨.inr rfl, _, rfl, rfl, ?_, rfl⟩
        rw [tsame_eq2, heqs]; simp only [Q, Bool.and_true, Bool.true_and, Bool.false_and, Bool.and_false, Bool.not_true, Bool.not_false]; rfl
      · simp only [List.append_eq, List.cons_append, List.nil_append]
        (repeat refine W_seq ?_); refine W_regionT [] ?_
        simp (maxSteps := 1000000) only [go_sem, Q, beq85, beq88, hd.text, hd2.text, wa0_0, wa1_0, wa2_0, wa3_0, wa4_0, wa5_0, wa6_0, wa7_0, wa8_0, wa9_0, wa10_0, wa88_12_0, wa88_15_0, wa88_16_0, wa88_17_0, wa85_7_0, wa85_8_0, wa85_9_0, wa85_13_0, wa85_14_0, wl0_0, wl1_0, wl2_0, wl3_0, wl4_0, wl5_0, wl6_0, wl7_0, wl8_0, wl9_0, wl10_0, wl11_0, wl12_0, wl13_0, wl14_0, wl15_0, wl16_0, wl17_0, wl7g85_0, wl12g85_0, wl12g88_0, wL_0, wa0_1, wa1_1, wa2_1, wa3_1, wa4_1, wa5_1, wa6_1, wa7_1, wa8_1, wa9_1, wa10_1, wa88_12_1, wa88_15_1, wa88_16_1, wa88_17_1, wa85_7_1, wa85_8_1, wa85_9_1, wa85_13_1, wa85_14_1, wl0_1, wl1_1, wl2_1, wl3_1, wl4_1, wl5_1, wl6_1, wl7_1, wl8_1, wl9_1, wl10_1, wl11_1, wl12_1, wl13_1, wl14_1, wl15_1, wl16_1, wl17_1, wl7g85_1, wl12g85_1, wl12g88_1, wL_1]
        refine W_ret ⟨.inr rfl, _, rfl, rfl, ?_, rfl⟩
        rw [tsame_eq2, heqs]; simp only [Q, Bool.and_true, Bool.true_and, Bool.false_and, Bool.and_false, Bool.not_true, Bool.not_false]; rfl
      · simp only [List.append_eq, List.cons_append, List.nil_append]
        (repeat refine W_seq ?_); refine W_regionT [] ?_
        simp (maxSteps := 1000000) only [go_sem, Q, beq85, beq88, hd.text, hd2.text, wa0_0, wa1_0, wa2_0, wa3_0, wa4_0, wa5_0, wa6_0, wa7_0, wa8_0, wa9_0, wa10_0, wa88_12_0, wa88_15_0, wa88_16_0, wa88_17_0, wa85_7_0, wa85_8_0, wa85_9_0, wa85_13_0, wa85_14_0, wl0_0, wl1_0, wl2_0, wl3_0, wl4_0, wl5_0, wl6_0, wl7_0, wl8_0, wl9_0, wl10_0, wl11_0, wl12_0, wl13_0, wl14_0, wl15_0, wl16_0, wl17_0, wl7g85_0, wl12g85_0, wl12g88_0, wL_0, wa0_1, wa1_1, wa2_1, wa3_1, wa4_1, wa5_1, wa6_1, wa7_1, wa8_1, wa9_1, wa10_1, wa88_12_1, wa88_15_1, wa88_16_1, wa88_17_1, wa85_7_1, wa85_8_1, wa85_9_1, wa85_13_1, wa85_14_1, wl0_1, wl1_1, wl2_1, wl3_1, wl4_1, wl5_1, wl6_1, wl7_1, wl8_1, wl9_1, wl10_1, wl11_1, wl12_1, wl13_1, wl14_1, wl15_1, wl16_1, wl17_1, wl7g85_1, wl12g85_1, wl12g88_1, wL_1]
        refine W_ret ⟨.inr rfl, _, rfl, rfl, ?_, rfl⟩
        rw [tsame_eq2, heqs]; simp only [Q, Bool.and_true, Bool.true_and, Bool.false_and, Bool.and_false, Bool.not_true, Bool.not_false]; rfl
      · simp only [List.append_eq, List.cons_append, List.nil_append]
        (repeat refine W_seq ?_); refine W_regionT [] ?_
        simp (maxSteps := 1000000) only [go_sem, Q, beq85, beq88, hd.text, hd2.text, wa0_0, wa1_0, wa2_0, wa3_0, wa4_0, wa5_0, wa6_0, wa7_0, wa8_0, wa9_0, wa10_0, wa88_12_0, wa88_15_0, wa88_16_0, wa88_17_0, wa85_7_0, wa85_8_0, wa85_9_0, wa85_13_0, wa85_14_0, wl0_0, wl1_0, wl2_0, wl3_0, wl4_0, wl5_0, wl6_0, wl7_0, wl8_0, wl9_0, wl10_0, wl11_0, wl12_0, wl13_0, wl14_0, wl15_0, wl16_0, wl17_0, wl7g85_0, wl12g85_0, wl12g88_0, wL_0, wa0_1, wa1_1, wa2_1, wa3_1, wa4_1, wa5_1, wa6_1, wa7_1, wa8_1, wa9_1, wa10_1, wa88_12_1, wa88_15_1, wa88_16_1, wa88_17_1, wa85_7_1, wa85_8_1, wa85_9_1, wa85_13_1, wa85_14_1, wl0_1, wl1_1, wl2_1, wl3_1, wl4_1, wl5_1, wl6_1, wl7_1, wl8_1, wl9_1, wl10_1, wl11_1, wl12_1, wl13_1, wl14_1, wl15_1, wl16_1, wl17_1, wl7g85_1, wl12g85_1, wl12g88_1, wL_1]
        refine W_ret ⟨.inr rfl, _, rfl, rfl, ?_, rfl⟩
        rw [tsame_eq2, heqs]; simp only [Q, Bool.and_true, Bool.true_and, Bool.false_and, Bool.and_false, Bool.not_true, Bool.not_false]; rfl
      · simp only [List.append_eq, List.cons_append, List.nil_append]
        (repeat refine W_seq ?_); refine W_regionT [] ?_
        simp (maxSteps := 1000000) only [go_sem, Q, beq85, beq88, hd.text, hd2.text, wa0_0, wa1_0, wa2_0, wa3_0, wa4_0, wa5_0, wa6_0, wa7_0, wa8_0, wa9_0, wa10_0, wa88_12_0, wa88_15_0, wa88_16_0, wa88_17_0, wa85_7_0, wa85_8_0, wa85_9_0, wa85_13_0, wa85_14_0, wl0_0, wl1_0, wl2_0, wl3_0, wl4_0, wl5_0, wl6_0, wl7_0, wl8_0, wl9_0, wl10_0, wl11_0, wl12_0, wl13_0, wl14_0, wl15_0, wl16_0, wl17_0, wl7g85_0, wl12g85_0, wl12g88_0, wL_0, wa0_1, wa1_1, wa2_1, wa3_1, wa4_1, wa5_1, wa6_1, wa7_1, wa8_1, wa9_1, wa10_1, wa88_12_1, wa88_15_1, wa88_16_1, wa88_17_1, wa85_7_1, wa85_8_1, wa85_9_1, wa85_13_1, wa85_14_1, wl0_1, wl1_1, wl2_1, wl3_1, wl4_1, wl5_1, wl6_1, wl7_1, wl8_1, wl9_1, wl10_1, wl11_1, wl12_1, wl13_1, wl14_1, wl15_1, wl16_1, wl17_1, wl7g85_1, wl12g85_1, wl12g88_1, wL_1]
        refine W_ret ⟨.inr rfl, _, rfl, rfl, ?_, rfl⟩
        rw [tsame_eq2, heqs]; simp only [Q, Bool.and_true, Bool.true_and, Bool.false_and, Bool.and_false, Bool.not_true, Bool.not_false]; rfl
      · simp only [List.append_eq, List.cons_append, List.nil_append]
        (repeat refine W_seq ?_); refine W_regionT [] ?_
        simp (maxSteps := 1000000) only [go_sem, Q, beq85, beq88, hd.text, hd2.text, wa0_0, wa1_0, wa2_0, wa3_0, wa4_0, wa5_0, wa6_0, wa7_0, wa8_0, wa9_0, wa10_0, wa88_12_0, wa88_15_0, wa88_16_0, wa88_17_0, wa85_7_0, wa85_8_0, wa85_9_0, wa85_13_0, wa85_14_0, wl0_0, wl1_0, wl2_0, wl3_0, wl4_0, wl5_0, wl6_0, wl7_0, wl8_0, wl9_0, wl10_0, wl11_0, wl12_0, wl13_0, wl14_0, wl15_0, wl16_0, wl17_0, wl7g85_0, wl12g85_0, wl12g88_0, wL_0, wa0_1, wa1_1, wa2_1, wa3_1, wa4_1, wa5_1, wa6_1, wa7_1, wa8_1, wa9_1, wa10_1, wa88_12_1, wa88_15_1, wa88_16_1, wa88_17_1, wa85_7_1, wa85_8_1, wa85_9_1, wa85_13_1, wa85_14_1, wl0_1, wl1_1, wl2_1, wl3_1, wl4_1, wl5_1, wl6_1, wl7_1, wl8_1, wl9_1, wl10_1, wl11_1, wl12_1, wl13_1, wl14_1, wl15_1, wl16_1, wl17_1, wl7g85_1, wl12g85_1, wl12g88_1, wL_1]
        refine W_ret ⟨.inr rfl, _, rfl, rfl, ?_, rfl⟩
        rw [tsame_eq2, heqs]; simp only [Q, Bool.and_true, Bool.true_and, Bool.false_and, Bool.and_false, Bool.not_true, Bool.not_false]; rfl
      · simp only [List.append_eq, List.cons_append, List.nil_append]
        (repeat refine W_seq ?_); refine W_regionT [] ?_
        simp (maxSteps := 1000000) only [go_sem, Q, beq85, beq88, hd.text, hd2.text, wa0_0, wa1_0, wa2_0, wa3_0, wa4_0, wa5_0, wa6_0, wa7_0, wa8_0, wa9_0, wa10_0, wa88_12_0, wa88_15_0, wa88_16_0, wa88_17_0, wa85_7_0, wa85_8_0, wa85_9_0, wa85_13_0, wa85_14_0, wl0_0, wl1_0, wl2_0, wl3_0, wl4_0, wl5_0, wl6_0, wl7_0, wl8_0, wl9_0, wl10_0, wl11_0, wl12_0, wl13_0, wl14_0, wl15_0, wl16_0, wl17_0, wl7g85_0, wl12g85_0, wl12g88_0, wL_0, wa0_1, wa1_1, wa2_1, wa3_1, wa4_1, wa5_1, wa6_1, wa7_1, wa8_1, wa9_1, wa10_1, wa88_12_1, wa88_15_1, wa88_16_1, wa88_17_1, wa85_7_1, wa85_8_1, wa85_9_1, wa85_13_1, wa85_14_1, wl0_1, wl1_1, wl2_1, wl3_1, wl4_1, wl5_1, wl6_1, wl7_1, wl8_1, wl9_1, wl10_1, wl11_1, wl12_1, wl13_1, wl14_1, wl15_1, wl16_1, wl17_1, wl7g85_1, wl12g85_1, wl12g88_1, wL_1]
        refine W_ret ⟨.inr rfl, _, rfl, rfl, ?_, rfl⟩
        rw [tsame_eq2, heqs]; simp only [Q, Bool.and_true, Bool.true_and, Bool.false_and, Bool.and_false, Bool.not_true, Bool.not_false]; rfl
      · simp only [List.append_eq, List.cons_append, List.nil_append]
        (repeat refine W_seq ?_); refine W_regionT [] ?_
        simp (maxSteps := 1000000) only [go_sem, Q, beq85, beq88, hd.text, hd2.text, wa0_0, wa1_0, wa2_0, wa3_0, wa4_0, wa5_0, wa6_0, wa7_0, wa8_0, wa9_0, wa10_0, wa88_12_0, wa88_15_0, wa88_16_0, wa88_17_0, wa85_7_0, wa85_8_0, wa85_9_0, wa85_13_0, wa85_14_0, wl0_0, wl1_0, wl2_0, wl3_0, wl4_0, wl5_0, wl6_0, wl7_0, wl8_0, wl9_0, wl10_0, wl11_0, wl12_0, wl13_0, wl14_0, wl15_0, wl16_0, wl17_0, wl7g85_0, wl12g85_0, wl12g88_0, wL_0, wa0_1, wa1_1, wa2_1, wa3_1, wa4_1, wa5_1, wa6_1, wa7_1, wa8_1, wa9_1, wa10_1, wa88_12_1, wa88_15_1, wa88_16_1, wa88_17_1, wa85_7_1, wa85_8_1, wa85_9_1, wa85_13_1, wa85_14_1, wl0_1, wl1_1, wl2_1, wl3_1, wl4_1, wl5_1, wl6_1, wl7_1, wl8_1, wl9_1, wl10_1, wl11_1, wl12_1, wl13_1, wl14_1, wl15_1, wl16_1, wl17_1, wl7g85_1, wl12g85_1, wl12g88_1, wL_1]
        refine W_ret ⟨.inr rfl, _, rfl, rfl, ?_, rfl⟩
        rw [tsame_eq2, heqs]; simp only [Q, Bool.and_true, Bool.true_and, Bool.false_and, Bool.and_false, Bool.not_true, Bool.not_false]; rfl
      · simp only [List.append_eq, List.cons_append, List.nil_append]
        (repeat refine W_seq ?_); refine W_regionT [] ?_
        simp (maxSteps := 1000000) only [go_sem, Q, beq85, beq88, hd.text, hd2.text, wa0_0, wa1_0, wa2_0, wa3_0, wa4_0, wa5_0, wa6_0, wa7_0, wa8_0, wa9_0, wa10_0, wa88_12_0, wa88_15_0, wa88_16_0, wa88_17_0, wa85_7_0, wa85_8_0, wa85_9_0, wa85_13_0, wa85_14_0, wl0_0, wl1_0, wl2_0, wl3_0, wl4_0, wl5_0, wl6_0, wl7_0, wl8_0, wl9_0, wl10_0, wl11_0, wl12_0, wl13_0, wl14_0, wl15_0, wl16_0, wl17_0, wl7g85_0, wl12g85_0, wl12g88_0, wL_0, wa0_1, wa1_1, wa2_1, wa3_1, wa4_1, wa5_1, wa6_1, wa7_1, wa8_1, wa9_1, wa10_1, wa88_12_1, wa88_15_1, wa88_16_1, wa88_17_1, wa85_7_1, wa85_8_1, wa85_9_1, wa85_13_1, wa85_14_1, wl0_1, wl1_1, wl2_1, wl3_1, wl4_1, wl5_1, wl6_1, wl7_1, wl8_1, wl9_1, wl10_1, wl11_1, wl12_1, wl13_1, wl14_1, wl15_1, wl16_1, wl17_1, wl7g85_1, wl12g85_1, wl12g88_1, wL_1]
        refine W_ret ⟨.inr rfl, _, rfl, rfl, ?_, rfl⟩
        rw [tsame_eq2, heqs]; simp only [Q, Bool.and_true, Bool.true_and, Bool.false_and, Bool.and_false, Bool.not_true, Bool.not_false]; rfl
      · simp only [List.append_eq, List.cons_append, List.nil_append]
        (repeat refine W_seq ?_); refine W_regionT [] ?_
        simp (maxSteps := 1000000) only [go_sem, Q, beq85, beq88, hd.text, hd2.text, wa0_0, wa1_0, wa2_0, wa3_0, wa4_0, wa5_0, wa6_0, wa7_0, wa8_0, wa9_0, wa10_0, wa88_12_0, wa88_15_0, wa88_16_0, wa88_17_0, wa85_7_0, wa85_8_0, wa85_9_0, wa85_13_0, wa85_14_0, wl0_0, wl1_0, wl2_0, wl3_0, wl4_0, wl5_0, wl6_0, wl7_0, wl8_0, wl9_0, wl10_0, wl11_0, wl12_0, wl13_0, wl14_0, wl15_0, wl16_0, wl17_0, wl7g85_0, wl12g85_0, wl12g88_0, wL_0, wa0_1, wa1_1, wa2_1, wa3_1, wa4_1, wa5_1, wa6_1, wa7_1, wa8_1, wa9_1, wa10_1, wa88_12_1, wa88_15_1, wa88_16_1, wa88_17_1, wa85_7_1, wa85_8_1, wa85_9_1, wa85_13_1, wa85_14_1, wl0_1, wl1_1, wl2_1, wl3_1, wl4_1, wl5_1, wl6_1, wl7_1, wl8_1, wl9_1, wl10_1, wl11_1, wl12_1, wl13_1, wl14_1, wl15_1, wl16_1, wl17_1, wl7g85_1, wl12g85_1, wl12g88_1, wL_1]
        refine W_ret ⟨.inr rfl, _, rfl, rfl, ?_, rfl⟩
        rw [tsame_eq2, heqs]; simp only [Q, Bool.and_true, Bool.true_and, Bool.false_and, Bool.and_false, Bool.not_true, Bool.not_false]; rfl
def roomOf (n : Int) : Int := if 24 < n then n - 24 else 0
theorem max24 {n : Int} : maxA [.int .i64 n, .int .i64 24] = some (.int .i64 (if 24 < n then n else 24)) := by
  unfold maxA
  simp only [List.foldl]
  rcases (show 24 < n ∨ ¬ 24 < n by omega) with h | h <;> simp [h] <;> omega
theorem room70 {n : Int} (hn : -9223372036854775808 ≤ n ∧ n < 9223372036854775808) : AC Try.prog 70 [.int .i64 n] ⟨H, S⟩ (fun v M' => v = .int .i64 (roomOf n) ∧ M' = ⟨H, S⟩) := by
  refine AC_of_WE Try.func70 rfl ?_
  simp only [Try.ntmps70, List.length_cons, List.length_nil, List.replicate, List.cons_append, List.nil_append, mem_enter]
  have hw : IntKind.wrap .i64 ((if 24 < n then n else 24) - 24) = roomOf n := by
    rw [wrap_i64 (by split <;> omega) (by split <;> omega)]; unfold roomOf; split <;> omega
  (repeat refine W_seq ?_); refine W_regionT [] ?_
  simp only [go_sem]
  (repeat refine W_seq ?_); refine W_regionT [] ?_
  simp only [go_sem, max24, hw]
  exact W_ret ⟨.inr rfl, _, rfl, rfl, rfl, rfl⟩
theorem room_pack {t : Nat} (h : t ≤ 1024) : (dataT (List.replicate t 0)).pack.length = 11 + t := by
  have e : (dataT (List.replicate t 0)).body = le (List.replicate t (0 : UInt8)).length 4 ++ List.replicate t 0 := tbody7 rfl
  unfold TellR.pack
  rw [e]
  simp only [List.length_append, le_length, List.length_replicate]
  omega
theorem tellRoom {n t c : Int} (hn : -9223372036854775808 ≤ n ∧ n < 9223372036854775808) : AC Try.prog 14 [.int .i64 n, .int .i64 t, .int .i64 c] ⟨H, S⟩ (fun v M' => v = .bool true) := by
  refine AC_of_WE Try.func14 rfl ?_
  simp only [Try.ntmps14, List.length_cons, List.length_nil, List.replicate, List.cons_append, List.nil_append, mem_enter]
  obtain ⟨w, hw⟩ : ∃ w : Int, w = roomOf n := ⟨_, rfl⟩
  have hn24 : IntKind.wrap .i64 (n - 24) = (if 24 < n then n - 24 else IntKind.wrap .i64 (n - 24)) := by
    split
    · exact wrap_i64 (by omega) (by omega)
    · rfl
  (repeat refine W_seq ?_); refine W_regionT [] ?_
  simp only [go_sem]
  (repeat refine W_seq ?_); refine W_regionT [] ?_
  simp only [go_sem]
  (repeat refine W_seq ?_); refine W_regionT [] ?_
  simp only [go_sem]
  (repeat refine W_seq ?_)
  refine W_cond_if rfl (fun hb => ?_) (fun hb => ?_)
  · have hgt : 24 < n := by simpa using hb
    have hw24 : IntKind.wrap .i64 (n - 24) = roomOf n := by rw [wrap_i64 (by omega) (by omega)]; unfold roomOf; rw [if_pos hgt]
    (repeat refine W_seq ?_); refine W_regionT [] ?_
    simp only [go_sem, hw24]
    (repeat refine W_seq ?_); refine W_regionT [] ?_
    simp only [go_sem]
    refine AT_call rfl rfl (aroundF hn.1 hn.2 (by decide)) fun v M1 hd1 h1 => ?_
    obtain ⟨hv, hM⟩ := h1
    have hrn := around_range (n := n) (k := 1025) (by decide)
    generalize around n 1025 = rn at hv hrn
    subst hv; subst hM
    obtain ⟨tn, htn⟩ : ∃ t : Nat, 24 + rn = t := ⟨(24 + rn).toNat, by omega⟩
    have en : IntKind.wrap .i64 (tn : Int) = (tn : Int) := wrap_i64 (by omega) (by omega)
    simp only [go_sem, en, htn]
    (repeat refine W_seq ?_); refine W_regionT [] ?_
    simp only [go_sem]
    refine AT_call rfl rfl (room70 (n := tn) (by omega)) fun v M1 hd1 h1 => ?_
    rw [show roomOf (tn : Int) = ((tn - 24 : Nat) : Int) from by unfold roomOf; split <;> omega] at h1
    obtain ⟨hv, hM⟩ := h1; subst hv; subst hM
    obtain ⟨z, hz⟩ : ∃ z : Nat, tn = z + 24 := ⟨tn - 24, by omega⟩
    rw [show tn - 24 = z by omega]
    have hz0 : ¬ (z : Int) < 0 := by omega
    have hz1 : ¬ (1024 : Int) < (z : Int) := by omega
    simp only [go_sem]
    (repeat refine W_seq ?_); refine W_regionT [] ?_
    simp only [go_sem, decide_eq_false hz0, decide_eq_false hz1]
    (repeat refine W_seq ?_)
    refine W_cond (b := false) rfl ?_
    simp only [Bool.false_eq_true, if_false]
    refine W_skip ?_
    simp only [go_sem]
    obtain ⟨v8, H8, a8, b8, u8⟩ := make22 (H := H) (S := [] :: S) (n := z) (by omega)
    have d8 := bldD90 b8
    (repeat refine W_seq ?_); refine W_regionT [29] ?_
    simp only [go_sem, a8, d8]
    refine AT_call rfl rfl (twrite64 (a := dataT (List.replicate z 0)) ⟨.nilsl, _, rfl, QL.nil, b8⟩ (by simp [dataT]) (fun h => absurd (show tkind 117 = 5 from h) (by decide))) fun v M1 hd1 h1 => ?_
    rw [show (dataT (List.replicate z 0)).may = true from by rw [tmay_d]; exact decide_eq_true (by omega)] at h1
    obtain ⟨H9, vb, rfl, rfl, u9, b9, _⟩ := h1
    simp only [if_true] at b9
    have hbl := b9.len (S := [] :: S)
    rw [room_pack (by omega)] at hbl
    simp only [go_sem, if_true]
    (repeat refine W_seq ?_); refine W_regionT [] ?_
    simp only [go_sem, hbl, tbld3]
    refine AT_call rfl rfl (room70 hn) fun v M1 hd1 h1 => ?_
    obtain ⟨hv, hM⟩ := h1; subst hv; subst hM
    have hz24 : IntKind.wrap .i64 ((tn : Int) - 24) = (z : Int) := by rw [wrap_i64 (by omega) (by omega)]; omega
    have hle : decide (((11 + z : Nat) : Int) ≤ (tn : Int)) = true := decide_eq_true (by omega)
    simp only [go_sem, hz24, hle, hbl, decide_true]
    refine AT_call rfl rfl (error71) fun v M1 hd1 h1 => ?_
    obtain ⟨hv, hM⟩ := h1; subst hv; subst hM
    simp only [go_sem, tbld3]
    refine AT_call rfl rfl (same69 errV errV (by simp [errR])) fun v M1 hd1 h1 => ?_
    obtain ⟨hv, hM⟩ := h1; rw [decide_eq_true rfl] at hv; subst hv; subst hM
    simp only [go_sem]
    refine AT_call rfl rfl (lives67) fun v M1 hd1 h1 => ?_
    obtain ⟨hv, hM⟩ := h1; subst hv; subst hM
    simp only [go_sem]
    exact W_ret ⟨.inr rfl, _, rfl, rfl, rfl⟩
  · have hro : roomOf n = 0 := by unfold roomOf; rw [if_neg (by simpa using hb)]
    refine W_skip ?_
    simp only [go_sem]
    (repeat refine W_seq ?_); refine W_regionT [] ?_
    simp only [go_sem]
    refine AT_call rfl rfl (aroundF hn.1 hn.2 (by decide)) fun v M1 hd1 h1 => ?_
    obtain ⟨hv, hM⟩ := h1
    have hrn := around_range (n := n) (k := 1025) (by decide)
    generalize around n 1025 = rn at hv hrn
    subst hv; subst hM
    obtain ⟨tn, htn⟩ : ∃ t : Nat, 24 + rn = t := ⟨(24 + rn).toNat, by omega⟩
    have en : IntKind.wrap .i64 (tn : Int) = (tn : Int) := wrap_i64 (by omega) (by omega)
    simp only [go_sem, en, htn]
    (repeat refine W_seq ?_); refine W_regionT [] ?_
    simp only [go_sem]
    refine AT_call rfl rfl (room70 (n := tn) (by omega)) fun v M1 hd1 h1 => ?_
    rw [show roomOf (tn : Int) = ((tn - 24 : Nat) : Int) from by unfold roomOf; split <;> omega] at h1
    obtain ⟨hv, hM⟩ := h1; subst hv; subst hM
    obtain ⟨z, hz⟩ : ∃ z : Nat, tn = z + 24 := ⟨tn - 24, by omega⟩
    rw [show tn - 24 = z by omega]
    have hz0 : ¬ (z : Int) < 0 := by omega
    have hz1 : ¬ (1024 : Int) < (z : Int) := by omega
    simp only [go_sem]
    (repeat refine W_seq ?_); refine W_regionT [] ?_
    simp only [go_sem, decide_eq_false hz0, decide_eq_false hz1]
    (repeat refine W_seq ?_)
    refine W_cond (b := false) rfl ?_
    simp only [Bool.false_eq_true, if_false]
    refine W_skip ?_
    simp only [go_sem]
    obtain ⟨v8, H8, a8, b8, u8⟩ := make22 (H := H) (S := [] :: S) (n := z) (by omega)
    have d8 := bldD90 b8
    (repeat refine W_seq ?_); refine W_regionT [29] ?_
    simp only [go_sem, a8, d8]
    refine AT_call rfl rfl (twrite64 (a := dataT (List.replicate z 0)) ⟨.nilsl, _, rfl, QL.nil, b8⟩ (by simp [dataT]) (fun h => absurd (show tkind 117 = 5 from h) (by decide))) fun v M1 hd1 h1 => ?_
    rw [show (dataT (List.replicate z 0)).may = true from by rw [tmay_d]; exact decide_eq_true (by omega)] at h1
    obtain ⟨H9, vb, rfl, rfl, u9, b9, _⟩ := h1
    simp only [if_true] at b9
    have hbl := b9.len (S := [] :: S)
    rw [room_pack (by omega)] at hbl
    simp only [go_sem, if_true]
    (repeat refine W_seq ?_); refine W_regionT [] ?_
    simp only [go_sem, hbl, tbld3]
    refine AT_call rfl rfl (room70 hn) fun v M1 hd1 h1 => ?_
    obtain ⟨hv, hM⟩ := h1; subst hv; subst hM
    have hz24 : IntKind.wrap .i64 ((tn : Int) - 24) = (z : Int) := by rw [wrap_i64 (by omega) (by omega)]; omega
    have hle : decide (((11 + z : Nat) : Int) ≤ (tn : Int)) = true := decide_eq_true (by omega)
    simp only [go_sem, hz24, hle, hbl, decide_true, hro]
    refine AT_call rfl rfl (error71) fun v M1 hd1 h1 => ?_
    obtain ⟨hv, hM⟩ := h1; subst hv; subst hM
    simp only [go_sem, tbld3]
    refine AT_call rfl rfl (same69 errV errV (by simp [errR])) fun v M1 hd1 h1 => ?_
    obtain ⟨hv, hM⟩ := h1; rw [decide_eq_true rfl] at hv; subst hv; subst hM
    simp only [go_sem]
    refine AT_call rfl rfl (lives67) fun v M1 hd1 h1 => ?_
    obtain ⟨hv, hM⟩ := h1; subst hv; subst hM
    simp only [go_sem]
    exact W_ret ⟨.inr rfl, _, rfl, rfl, rfl⟩
end
end Go.Proofs.Ytlpcbfndjffpfaa
