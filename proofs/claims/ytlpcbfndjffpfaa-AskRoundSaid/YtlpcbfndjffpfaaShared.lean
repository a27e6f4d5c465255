/- What the walks of requests and of replies share. -/
import Derived.Test.YtlpcbfndjffpfaaReads
import Derived.Test.YtlpcbfndjffpfaaAbs32
set_option maxRecDepth 100000
set_option maxHeartbeats 4000000
set_option linter.unusedSimpArgs false
set_option linter.unusedVariables false
namespace Go.Proofs.Ytlpcbfndjffpfaa
open Go.Abs
section
variable {H H' : List Block} {S : List (List Block)} {F : List Block} {M' : Mem} {v x b : AV} {l r : List UInt8} {X Y B0 B1 B2 : Block}
def around (n k : Int) : Int := Int.tmod (if n < 0 then -(n + 1) else n) k
theorem around_range {n k : Int} (hk : 0 < k) : 0 ≤ around n k ∧ around n k < k := by
  unfold around
  have h0 : 0 ≤ (if n < 0 then -(n + 1) else n) := by split <;> omega
  exact ⟨Int.tmod_nonneg _ h0, Int.tmod_lt_of_pos _ hk⟩
theorem aroundF {n k : Int} (h0 : -9223372036854775808 ≤ n) (h1 : n < 9223372036854775808) (hk : 0 < k) : AC Try.prog 34 [.int .i64 n, .int .i64 k] ⟨H, S⟩ (fun v M' => v = .int .i64 (around n k) ∧ M' = ⟨H, S⟩) := by
  refine AC_of_WE Try.func34 rfl ?_
  simp only [Try.ntmps34, List.length_cons, List.length_nil, List.replicate, List.cons_append, List.nil_append, mem_enter]
  have hk0 : k ≠ 0 := by omega
  (repeat refine W_seq ?_); refine W_regionT [] ?_
  simp only [go_sem]
  by_cases hn : n < 0
  · have hx := hn
    (repeat refine W_seq ?_); refine W_regionT [] ?_
    simp only [go_sem, hx]
    (repeat refine W_seq ?_)
    refine W_cond (b := true) rfl ?_
    simp only [if_true]
    (repeat refine W_seq ?_); refine W_regionT [] ?_
    simp only [go_sem, wrap_i64 (n := n + 1) (by omega) (by omega), wrap_i64 (n := 0 - (n + 1)) (by omega) (by omega)]
    (repeat refine W_seq ?_); refine W_regionT [] ?_
    simp only [go_sem, bin_rem hk0]
    refine W_ret ⟨.inr rfl, _, rfl, rfl, ?_, rfl⟩
    unfold around
    rw [if_pos hn, show -(n + 1) = 0 - (n + 1) by omega]; rfl
  · have hx := hn
    (repeat refine W_seq ?_); refine W_regionT [] ?_
    simp only [go_sem, hx]
    (repeat refine W_seq ?_)
    refine W_cond (b := false) rfl ?_
    simp only [Bool.false_eq_true, if_false]
    refine W_skip ?_
    simp only [go_sem]
    (repeat refine W_seq ?_); refine W_regionT [] ?_
    simp only [go_sem, bin_rem hk0]
    refine W_ret ⟨.inr rfl, _, rfl, rfl, ?_, rfl⟩
    unfold around
    rw [if_neg hn]; rfl
def idx : AV → Nat → AV
  | .sl a _ _, i => .ptr { a with off := a.off + i }
  | _, _ => .undef
theorem at_idx {v : AV} {t e : TypeId} {cs : List AV} {n k : Nat} {ti1 j : TI} {kk : IntKind} (h : RH H v 1 cs n) (hi : ti Try.prog t = some ti1) (hd : ti1.desc = .slice e) (hj : ti Try.prog e = some j) (hs : j.size = 1) (ha : j.isAgg = false) (hk : k < n) :
    indexAddrA Try.prog t v (.int kk k) ⟨H, S⟩ = some (idx v k) ∧ loadA Try.prog e (idx v k) ⟨H, S⟩ = cs[k]? := by
  rcases h with ⟨_, _, rfl⟩ | ⟨ix, off, c, r, rfl, h1, h2, h3, h4⟩
  · omega
  · have hr : ∀ o, getRow ⟨H, S⟩ ⟨0, ix, o⟩ = some r := fun o => heap_row h1
    refine ⟨index_addr hi hd hj (hr off) hs h2 (by omega) (by omega), ?_⟩
    show loadA Try.prog e (.ptr ⟨0, ix, off + k⟩) ⟨H, S⟩ = _
    rw [load_one hj ha (hr _), ← h3, List.getElem?_take, if_pos (by omega), List.getElem?_drop]
theorem ofLe_le (n k : Nat) : ofLe (le n k) = n % 256 ^ k := by
  induction k generalizing n with
  | zero => simp [le, ofLe, Nat.mod_one]
  | succ k ih =>
    have e : le n (k + 1) = UInt8.ofNat (n % 256) :: le (n / 256) k := rfl
    rw [e, ofLe, ih]
    have : (UInt8.ofNat (n % 256)).toNat = n % 256 := by rw [UInt8.toNat_ofNat']; omega
    rw [this, Nat.pow_succ, Nat.mul_comm (256 ^ k), Nat.mod_mul]
theorem rTake_app {a r : List UInt8} {n : Nat} (h : a.length = n) : rTake (a ++ r, 0) n = (a, (r, 0)) := by
  unfold rTake
  rw [if_neg (by simp), if_neg (by simp; omega)]
  simp only [← h, List.take_left', List.drop_left']
theorem rNum_le {n k : Nat} {r : List UInt8} : rNum (le n k ++ r, 0) k = (n % 256 ^ k, (r, 0)) := by
  unfold rNum
  rw [rTake_app (le_length n k), ofLe_le]
theorem rText_app {t r : List UInt8} (h : t.length < 65536) : rText ((le t.length 2 ++ t) ++ r, 0) = (t, (r, 0)) := by
  unfold rText
  rw [List.append_assoc, rNum_le]
  simp only
  rw [Nat.mod_eq_of_lt (by simpa using h), rTake_app rfl]
theorem rData_app {t r : List UInt8} {m : Nat} (h : t.length ≤ m) (hm : m < 1000000) : rData ((le t.length 4 ++ t) ++ r, 0) m = (t, (r, 0)) := by
  unfold rData
  rw [List.append_assoc, rNum_le]
  simp only
  rw [Nat.mod_eq_of_lt (by simp; omega), if_neg (by omega), rTake_app rfl]
def BO (H : List Block) (v : AV) (l : List UInt8) : Prop := OH H v 5 1 (bytesA l) l.length
def NewO (H : List Block) (S : List (List Block)) (l : List UInt8) (v : AV) (M' : Mem) : Prop := ∃ H', M' = ⟨H', S⟩ ∧ UpdH no H H' ∧ BO H' v l ∧ ∀ k, v.loc k → H.length ≤ k
theorem BO.bh (h : BO H v l) : BH H v l := OH.rh h
theorem BO.new (h : BO H v l) (u : UpdH no H H') : BO H' v l := OH.new h u
theorem BO.nil : BO H .nilsl [] := OH.nil
theorem giveO {f : FuncId} {args : List AV} (h : AC Try.prog f args ⟨H, S⟩ (Gives ⟨H, S⟩ 5 l)) : AC Try.prog f args ⟨H, S⟩ (NewO H S l) :=
  (AC_heap h fun v M' h => ⟨_, h.1⟩).mono fun v M' ⟨M1, h, hM⟩ => by
    have h2 : Own H.length M1 v 5 1 (bytesA l) l.length := h.2
    have h3 : Own H.length ⟨M1.heap, S⟩ v 5 1 (bytesA l) l.length := by
      rcases h2 with h | ⟨ix, c, mv, h4, h5, h6, h7, h8⟩
      · exact .inl h
      · exact .inr ⟨ix, c, mv, h4, h5, h6, by rw [heap_get] at *; exact h7, h8⟩
    exact ⟨M1.heap, hM, UpdH.of_step h.1, (OH.of h3).1, (OH.of h3).2⟩
theorem BO.append (h : BO H v l) (hx : BH H x r) (hb : l.length + r.length < 1000000) : ∃ v' H', appendA Try.prog 22 22 true v x ⟨H, S⟩ = some (v', ⟨H', S⟩) ∧ BO H' v' (l ++ r) ∧ UpdH v.loc H H' ∧ ∀ k, v'.loc k → v.loc k ∨ H.length ≤ k := by
  obtain ⟨v', H', h1, h2, h3, h4⟩ := appH (S := S) ti22 rfl ti5 ti22 rfl rfl ⟨by decide, by decide, rfl, rfl⟩ h (content_rh hx) (bytesA_st r) (by show (l.length + r.length) * 1 ≤ _; omega)
  refine ⟨v', H', h1, ?_, h3, h4⟩
  unfold BO
  rw [← bytesA_append, List.length_append]; exact h2
theorem at59 {v : AV} {zs : List Int} {i : Nat} (h : RH H v 1 (zs.map (AV.int .i64)) zs.length) (hi : i < zs.length) :
    indexAddrA Try.prog 59 v (.int .i64 i) ⟨H, S⟩ = some (idx v i) ∧ loadA Try.prog 3 (idx v i) ⟨H, S⟩ = some (.int .i64 zs[i]) := by
  obtain ⟨h1, h2⟩ := at_idx (S := S) (kk := .i64) h ti59 rfl ti3 rfl rfl hi
  exact ⟨h1, by rw [h2, List.getElem?_map, List.getElem?_eq_getElem hi]; rfl⟩
theorem get0 {b : Block} {ix : Nat} (h : H[ix]? = some b) : (⟨H, S⟩ : Mem).get 0 ix = some b := by rw [mem_get0]; exact h
theorem gt0 : (⟨H, (X :: F) :: S⟩ : Mem).get (S.length + 1) 0 = some X := by rw [mem_get_top]; rfl
theorem gt1 : (⟨H, (B0 :: X :: F) :: S⟩ : Mem).get (S.length + 1) 1 = some X := by rw [mem_get_top]; rfl
theorem gt2 : (⟨H, (B0 :: B1 :: X :: F) :: S⟩ : Mem).get (S.length + 1) 2 = some X := by rw [mem_get_top]; rfl
theorem sg0 : (⟨H, (X :: F) :: S⟩ : Mem).set (S.length + 1) 0 Y = ⟨H, (Y :: F) :: S⟩ := by rw [mem_set_top]; rfl
theorem sg1 : (⟨H, (B0 :: X :: F) :: S⟩ : Mem).set (S.length + 1) 1 Y = ⟨H, (B0 :: Y :: F) :: S⟩ := by rw [mem_set_top]; rfl
theorem sg2 : (⟨H, (B0 :: B1 :: X :: F) :: S⟩ : Mem).set (S.length + 1) 2 Y = ⟨H, (B0 :: B1 :: Y :: F) :: S⟩ := by rw [mem_set_top]; rfl
theorem bytes102 {v w : AV} {l r : List UInt8} (h1 : BH H v l) (h2 : BH H w r) : AC Try.prog 102 [v, w] ⟨H, S⟩ (fun x M' => x = .bool (l == r) ∧ M' = ⟨H, S⟩) := by
  refine AC_of_WE Try.func102 rfl ?_
  simp only [Try.ntmps102, List.length_cons, List.length_nil, List.replicate, List.cons_append, List.nil_append, mem_enter]
  (repeat refine W_seq ?_); refine W_regionT [] ?_
  simp only [go_sem]
  (repeat refine W_seq ?_); refine W_regionT [] ?_
  simp only [go_sem, h1.text, h2.text]
  exact W_ret ⟨.inr rfl, _, rfl, rfl, rfl, rfl⟩
def inB (n lo hi : Int) : Bool := decide (lo ≤ n) && decide (n ≤ hi)
@[go_sem] theorem ev_strc {env : List AV} {l : List UInt8} : ev env (.const (.string ⟨l.toArray⟩)) = .str l := (rfl)
theorem BH.lev0' {v : AV} {l : List UInt8} (h : BH H v l) : v.lev0 = true := RH.lev0 h
theorem len59 {p : AA} {n : Nat} {c : Option Nat} {M : Mem} : lenA Try.prog 59 (.sl p n c) M = some (.int .i64 n) := by unfold lenA; rw [ti59]
def u8 (n : Int) : Nat := (n % 256).toNat
def u16 (n : Int) : Nat := (n % 65536).toNat
def u32 (n : Int) : Nat := (n % 4294967296).toNat
def u64 (n : Int) : Nat := (n % 18446744073709551616).toNat
theorem u8_wrap {n : Int} : IntKind.wrap .u8 n = ((u8 n : Nat) : Int) ∧ u8 n < 256 := by rw [wrap_u8]; unfold u8; omega
theorem u16_wrap {n : Int} : IntKind.wrap .u16 n = ((u16 n : Nat) : Int) ∧ u16 n < 65536 := by rw [wrap_u16]; unfold u16; omega
theorem u32_wrap {n : Int} : IntKind.wrap .u32 n = ((u32 n : Nat) : Int) ∧ u32 n < 4294967296 := by rw [wrap_u32]; unfold u32; omega
theorem u64_wrap {n : Int} : IntKind.wrap .u64 n = ((u64 n : Nat) : Int) ∧ u64 n < 18446744073709551616 := by rw [wrap_u64]; unfold u64; omega
theorem u8B {n : Int} (h : BH H b l) (hl : l.length < 1000000) : AC Try.prog 21 [b, .int .u8 (IntKind.wrap .u8 n)] ⟨H, S⟩ (NewB H S (l ++ le (u8 n) 1)) := by rw [u8_wrap.1]; exact give (u21 h.rb hl u8_wrap.2)
theorem u16B {n : Int} (h : BH H b l) (hl : l.length < 1000000) : AC Try.prog 22 [b, .int .u16 (IntKind.wrap .u16 n)] ⟨H, S⟩ (NewB H S (l ++ le (u16 n) 2)) := by rw [u16_wrap.1]; exact give (u22 h.rb hl u16_wrap.2)
theorem u32B {n : Int} (h : BH H b l) (hl : l.length < 1000000) : AC Try.prog 23 [b, .int .u32 (IntKind.wrap .u32 n)] ⟨H, S⟩ (NewB H S (l ++ le (u32 n) 4)) := by rw [u32_wrap.1]; exact give (u23 h.rb hl u32_wrap.2)
theorem u64B {n : Int} (h : BH H b l) (hl : l.length < 1000000) : AC Try.prog 24 [b, .int .u64 (IntKind.wrap .u64 n)] ⟨H, S⟩ (NewB H S (l ++ le (u64 n) 8)) := by rw [u64_wrap.1]; exact give (u24 h.rb hl u64_wrap.2)
theorem textB {s : List UInt8} (h : BH H b l) (hl : l.length < 1000000) (hs : s.length < 65536) : AC Try.prog 25 [b, .str s] ⟨H, S⟩ (NewB H S (l ++ le s.length 2 ++ s)) := give (text h.rb hl hs)
theorem dataB {c : AV} {s : List UInt8} (h : BH H b l) (h2 : BH H c s) (hl : l.length < 1000000) (hs : s.length < 1000000) : AC Try.prog 26 [b, c] ⟨H, S⟩ (NewB H S (l ++ le s.length 4 ++ s)) := give (data h.rb h2.rb hl hs)
theorem packB {n m : Int} (h : BH H b l) (hl : l.length < 1000000) : AC Try.prog 30 [.int .u8 (IntKind.wrap .u8 n), .int .u16 (IntKind.wrap .u16 m), b] ⟨H, S⟩ (NewB H S (le (7 + l.length) 4 ++ le (u8 n) 1 ++ le (u16 m) 2 ++ l)) := by rw [u8_wrap.1, u16_wrap.1]; exact give (pack h.rb hl u8_wrap.2 u16_wrap.2)
theorem at_row {t1 e : TypeId} {n k lv ix : Nat} {kk : IntKind} {cs : List AV} {ro mv : Bool} {i j : TI} {c : Option Nat} (hg : M'.get lv ix = some (.row ⟨e, 1, cs, ro, mv⟩)) (hi : ti Try.prog t1 = some i) (hd : i.desc = .slice e) (hj : ti Try.prog e = some j) (hs : j.size = 1) (ha : j.isAgg = false) (hk : k < n) :
    indexAddrA Try.prog t1 (.sl ⟨lv, ix, 0⟩ n c) (.int kk k) M' = some (.ptr ⟨lv, ix, k⟩) ∧ loadA Try.prog e (.ptr ⟨lv, ix, k⟩) M' = cs[k]? := by
  have hr : ∀ o, getRow M' ⟨lv, ix, o⟩ = some ⟨e, 1, cs, ro, mv⟩ := fun o => by unfold getRow; simp only [hg]
  refine ⟨?_, by rw [load_one hj ha (hr _)]⟩
  rw [index_addr hi hd hj (hr 0) hs rfl (by omega) (by omega)]
  simp
theorem len70l {p : AA} {n : Nat} {c : Option Nat} {M : Mem} : lenA Try.prog 70 (.sl p n c) M = some (.int .i64 n) := by unfold lenA; rw [ti70]
theorem len9 {l : List UInt8} {M : Mem} : lenA Try.prog 9 (.str l) M = some (.int .i64 l.length) := len_str ti9 rfl
theorem str_at {l : List UInt8} {i : Nat} (h : i < l.length) : indexA Try.prog 9 (.str l) (.int .i64 i) = some (.int .u8 l[i].toNat) := by
  unfold indexA
  simp only [ti9]
  rw [if_pos (by omega), show ((i : Int)).toNat = i from rfl, List.getElem?_eq_getElem h]; rfl
theorem dlt {m n : Int} : decide (m < n) = !decide (n ≤ m) := by rw [Bool.eq_iff_iff]; simp
theorem cut_str {l : List UInt8} {n : Nat} (h : n ≤ l.length) : slices Try.prog 9 (.str l) none (some (.int .i64 n)) none M' = some (.str (l.take n)) := by
  unfold slices
  simp only [ti9]
  unfold sliceA
  simp only [ti9]
  have e : onat l.length (some (.int .i64 (n : Int))) = some n := by simp [onat, natOf]
  rw [e]
  simp only [onat]
  rw [if_pos ⟨Nat.zero_le _, h⟩, List.drop_zero]
theorem short89 {l : List UInt8} {n : Nat} : AC Try.prog 89 [.str l, .int .i64 n] ⟨H, S⟩ (fun v M' => v = .str (l.take n) ∧ M' = ⟨H, S⟩) := by
  refine AC_of_WE Try.func89 rfl ?_
  simp only [Try.ntmps89, List.length_cons, List.length_nil, List.replicate, List.cons_append, List.nil_append, mem_enter]
  (repeat refine W_seq ?_); refine W_regionT [] ?_
  simp only [go_sem]
  (repeat refine W_seq ?_); refine W_regionT [] ?_
  simp only [go_sem, len9]
  (repeat refine W_seq ?_)
  refine W_cond_if rfl (fun hb => ?_) (fun hb => ?_)
  · have hlen : n ≤ l.length := by simp at hb; omega
    (repeat refine W_seq ?_); refine W_regionT [] ?_
    simp only [go_sem, Option.map_none, Option.map_some, cut_str hlen]
    exact W_ret ⟨.inr rfl, _, rfl, rfl, rfl, rfl⟩
  · have hlen : l.length ≤ n := by simp at hb; omega
    refine W_skip ?_
    simp only [go_sem]
    (repeat refine W_seq ?_); refine W_regionT [] ?_
    simp only [go_sem]
    refine W_ret ⟨.inr rfl, _, rfl, rfl, ?_, rfl⟩
    rw [List.take_of_length_le hlen]; rfl
theorem shortQ {M : Mem} {l : List UInt8} {n : Nat} : AC Try.prog 89 [.str l, .int .i64 n] M fun v M' => v = .str (l.take n) ∧ M' = M := by obtain ⟨H, S⟩ := M; exact short89
theorem aroundQ {M : Mem} {n k : Int} (h0 : -9223372036854775808 ≤ n ∧ n < 9223372036854775808) (hk : 0 < k) : AC Try.prog 34 [.int .i64 n, .int .i64 k] M fun v M' => v = .int .i64 (around n k) ∧ M' = M := by obtain ⟨H, S⟩ := M; exact aroundF h0.1 h0.2 hk
theorem make22 {n : Nat} (hn : n ≤ 2000) : ∃ v H', makeSliceA Try.prog 22 true (.int .i64 n) (.int .i64 n) ⟨H, S⟩ = some (v, ⟨H', S⟩) ∧ BH H' v (List.replicate n 0) ∧ UpdH no H H' := by
  refine ⟨_, _, make_cells ti22 rfl ti5 rfl rfl rfl (by show n * 1 ≤ _; omega) (by omega), ?_, UpdH.push⟩
  refine .inr ⟨H.length, 0, some n, ⟨5, 1, List.replicate n (.int .u8 0), false, false⟩, ?_, by simp, rfl, ?_, ?_⟩
  · rw [List.length_replicate]
  · simp [bytesA, List.map_replicate]
  · simp [bytesA]
theorem fewB {b : AV} {l : List UInt8} {n : Nat} (h : BH H b l) (hn : n < 10000) : AC Try.prog 20 [b, .int .i64 n] ⟨H, S⟩ (NewB H S (l.take n)) := give (few h.rb hn)
theorem take_min {α : Type} {l : List α} {m : Nat} : l.take (min l.length m) = l.take m := by
  rcases Nat.le_total l.length m with h | h
  · rw [Nat.min_eq_left h, List.take_length, List.take_of_length_le h]
  · rw [Nat.min_eq_right h]
theorem leU32 {n : Int} : le (u64 n) 4 = le (u32 n) 4 := by rw [← le_mod (u64 n) 4 4294967296 (by decide), show u64 n % 4294967296 = u32 n by unfold u64 u32; omega]
theorem leU16 {n : Int} : le (u64 n) 2 = le (u16 n) 2 := by rw [← le_mod (u64 n) 2 65536 (by decide), show u64 n % 65536 = u16 n by unfold u64 u16; omega]
theorem leU8 {n : Int} : le (u64 n) 1 = le (u8 n) 1 := by rw [← le_mod (u64 n) 1 256 (by decide), show u64 n % 256 = u8 n by unfold u64 u8; omega]
theorem numB {n size : Nat} (hn : n < 18446744073709551616) (hs : size ≤ 8) : AC Try.prog 27 [.int .u64 n, .int .i64 size] ⟨H, S⟩ (NewO H S (le n size)) := giveO (number hn hs)
theorem rtextB {s : List UInt8} (hs : s.length < 1000000) : AC Try.prog 28 [.str s] ⟨H, S⟩ (NewO H S (le s.length 2 ++ s)) := giveO (refText hs)
theorem rdataB {b : AV} {s : List UInt8} (h : BH H b s) (hs : s.length < 1000000) : AC Try.prog 29 [b] ⟨H, S⟩ (NewO H S (le s.length 4 ++ s)) := giveO (refData h.rb hs)
theorem rpackB {b : AV} {s : List UInt8} {t g : Int} (h : BH H b s) (hs : s.length < 1000000) (ht : 0 ≤ t ∧ t < 256) (hg : 0 ≤ g ∧ g < 65536) : AC Try.prog 31 [.int .i64 t, .int .i64 g, b] ⟨H, S⟩ (NewO H S (le (7 + s.length) 4 ++ le (u8 t) 1 ++ le (u16 g) 2 ++ s)) := by
  obtain ⟨t, rfl⟩ : ∃ n : Nat, t = n := ⟨t.toNat, by omega⟩
  obtain ⟨g, rfl⟩ : ∃ n : Nat, g = n := ⟨g.toNat, by omega⟩
  rw [show u8 (t : Int) = t by unfold u8; omega, show u16 (g : Int) = g by unfold u16; omega]
  exact giveO (refPack h.rb hs (by omega) (by omega))
theorem OH.lev0' {v : AV} {l : List UInt8} (h : BO H v l) : v.lev0 = true := RH.lev0 h.bh
end
end Go.Proofs.Ytlpcbfndjffpfaa
