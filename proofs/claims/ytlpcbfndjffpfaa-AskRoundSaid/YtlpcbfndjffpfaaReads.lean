/- Bytes over the heap written out, and the walk through the two readers. -/
import Derived.Test.YtlpcbfndjffpfaaBytes
import Derived.Test.YtlpcbfndjffpfaaAbs29
set_option maxRecDepth 100000
set_option maxHeartbeats 4000000
set_option linter.unusedSimpArgs false
set_option linter.unusedVariables false
namespace Go.Proofs.Ytlpcbfndjffpfaa
open Go.Abs
theorem mixedM : Try.prog.follows .mixedOrders = true := by kernel_rfl
/-- Bytes that are read in the heap. -/
def BH (H : List Block) (v : AV) (l : List UInt8) : Prop := RH H v 1 (bytesA l) l.length
/-- New bytes, and nothing else has changed. -/
def NewB (H : List Block) (S : List (List Block)) (l : List UInt8) (v : AV) (M' : Mem) : Prop := ∃ H', M' = ⟨H', S⟩ ∧ UpdH no H H' ∧ BH H' v l ∧ ∀ k, v.loc k → H.length ≤ k
section
variable {H H' : List Block} {S : List (List Block)} {v : AV} {l : List UInt8} {p : Nat → Prop}
theorem give {f : FuncId} {args : List AV} {e : TypeId} (h : AC Try.prog f args ⟨H, S⟩ (Gives ⟨H, S⟩ e l)) : AC Try.prog f args ⟨H, S⟩ (NewB H S l) :=
  (AC_heap h fun v M' h => ⟨_, h.1⟩).mono fun v M' ⟨M1, h, hM⟩ => by
    have h2 : Own H.length M1 v e 1 (bytesA l) l.length := h.2
    have h3 : Own H.length ⟨M1.heap, S⟩ v e 1 (bytesA l) l.length := by
      rcases h2 with h | ⟨ix, c, mv, h4, h5, h6, h7, h8⟩
      · exact .inl h
      · exact .inr ⟨ix, c, mv, h4, h5, h6, by rw [heap_get] at *; exact h7, h8⟩
    exact ⟨M1.heap, hM, UpdH.of_step h.1, (OH.of h3).1.rh, (OH.of h3).2⟩
theorem BH.rb (h : BH H v l) : RB ⟨H, S⟩ v l := RH.rd h
theorem BH.new (h : BH H v l) (u : UpdH no H H') : BH H' v l := RH.new h u
theorem BH.upd (h : BH H v l) (u : UpdH p H H') (hp : ∀ i, v.loc i → ¬ p i) : BH H' v l := RH.upd h u hp
theorem BH.len (h : BH H v l) : lenA Try.prog 22 v ⟨H, S⟩ = some (.int .i64 l.length) := len_rd (h.rb) ti22 rfl
theorem BH.text (h : BH H v l) {hp : Bool} : convA Try.prog 22 9 hp v ⟨H, S⟩ = some (.str l, ⟨H, S⟩) := RB.text h.rb bt22 st9
theorem BH.nil : BH H .nilsl [] := RH.nil
theorem BH.at (h : BH H v l) {i : Nat} (hi : i < l.length) {kk : IntKind} : ∃ q, indexAddrA Try.prog 22 v (.int kk i) ⟨H, S⟩ = some q ∧ loadA Try.prog 5 q ⟨H, S⟩ = some (.int .u8 (l[i].toNat : Int)) := by
  obtain ⟨q, h1, h2, _⟩ := at_rh (P := Try.prog) (S := S) (kk := kk) h ti22 rfl ti5 rfl rfl hi
  exact ⟨q, h1, by rw [h2, bytesA, List.getElem?_map, List.getElem?_eq_getElem hi]; rfl⟩
theorem cutB {l : List UInt8} {a b : Nat} : ((bytesA l).take (b * 1)).drop (a * 1) = bytesA ((l.take b).drop a) := by simp [bytesA, List.map_take, List.map_drop]
theorem BH.cut (h : BH H v l) {lo hi : Option AV} {a b : Nat} (hlo : onat 0 lo = some a) (hhi : onat l.length hi = some b) (hab : a ≤ b) (hb : b ≤ l.length) : ∃ v', slices Try.prog 22 v lo hi none ⟨H, S⟩ = some v' ∧ BH H v' ((l.take b).drop a) ∧ ∀ k, v'.loc k → v.loc k := by
  obtain ⟨v', h1, h2, h3⟩ := cut_rh (P := Try.prog) (S := S) h ti22 rfl ti5 rfl hlo hhi hab hb
  refine ⟨v', h1, ?_, h3⟩
  unfold BH
  rw [← cutB, show ((l.take b).drop a).length = b - a by simp; omega]; exact h2
theorem BH.cut3 (h : BH H v l) {n : Nat} (hn : n ≤ l.length) : ∃ v', slices Try.prog 22 v none (some (.int .i64 n)) (some (.int .i64 n)) ⟨H, S⟩ = some v' ∧ BH H v' (l.take n) ∧ ∀ k, v'.loc k → v.loc k := by
  have hb : (bytesA l).take (n * 1) = bytesA (l.take n) := by have := cutB (l := l) (a := 0) (b := n); simpa using this
  have hnn : natOf (.int .i64 (n : Int)) = some n := by simp [natOf]
  unfold slices
  rw [ti22]; simp only
  unfold sliceA
  rw [ti22]; simp only
  rcases h with ⟨rfl, h2, h3⟩ | ⟨ix, off, c, r, rfl, h1, h2, h3, h4⟩
  · have hn0 : n = 0 := by omega
    subst hn0
    simp only [ti5, onat, hnn]
    refine ⟨.nilsl, rfl, ?_, fun k hk => hk⟩
    rw [List.take_zero]; exact RH.nil
  · have hr : getRow ⟨H, S⟩ ⟨0, ix, off⟩ = some r := heap_row h1
    simp only [ti5, hr, onat, hnn, Option.isSome_some]
    rw [if_pos ⟨Nat.zero_le _, Nat.le_refl _, hn, trivial, h2⟩]
    refine ⟨_, rfl, .inr ⟨ix, off + 0 * 1, some (n - 0), r, ?_, h1, h2, ?_, ?_⟩, fun k hk => hk⟩
    · simp [Nat.min_eq_left hn]
    · simp only [Nat.zero_mul, Nat.add_zero]
      rw [List.length_take, Nat.min_eq_left hn, ← hb, ← h3, List.take_take, Nat.min_eq_left (Nat.mul_le_mul_right _ hn)]
    · simp [bytesA]
end
/-- What a reader has: bytes that are left, and the error. -/
abbrev RS := List UInt8 × Int
def rTake (s : RS) (n : Nat) : List UInt8 × RS := if s.2 ≠ 0 then ([], s) else if s.1.length < n then ([], (s.1, 3)) else (s.1.take n, (s.1.drop n, 0))
def ofLe : List UInt8 → Nat
  | [] => 0
  | b :: l => b.toNat + 256 * ofLe l
def rNum (s : RS) (n : Nat) : Nat × RS := (ofLe (rTake s n).1, (rTake s n).2)
def rText (s : RS) : List UInt8 × RS := rTake (rNum s 2).2 (rNum s 2).1
def rData (s : RS) (most : Int) : List UInt8 × RS := if (rNum s 4).2.2 = 0 ∧ most < (rNum s 4).1 then rTake ((rNum s 4).2.1, 4) (rNum s 4).1 else rTake (rNum s 4).2 (rNum s 4).1
def rEnd (s : RS) : Int := if s.2 = 0 ∧ 0 < s.1.length then 2 else s.2
theorem rTake_len {s : RS} {n : Nat} : (rTake s n).1.length ≤ n ∧ (rTake s n).2.1.length ≤ s.1.length := by
  unfold rTake; split
  · simp
  · split
    · simp
    · simp; omega
theorem ofLe_lt : ∀ (l : List UInt8), ofLe l < 256 ^ l.length
  | [] => by simp [ofLe]
  | b :: l => by
    have h1 := ofLe_lt l
    have h2 := b.toNat_lt
    simp only [ofLe, List.length_cons, Nat.pow_succ]
    omega
theorem rNum_lt {s : RS} {n : Nat} : (rNum s n).1 < 256 ^ n := Nat.lt_of_lt_of_le (ofLe_lt _) (Nat.pow_le_pow_right (by decide) rTake_len.1)
theorem ofLe_take {l : List UInt8} {i : Nat} (hi : i < l.length) : ofLe (l.take (i + 1)) = ofLe (l.take i) + l[i].toNat * 256 ^ i := by
  induction l generalizing i with
  | nil => simp at hi
  | cons b l ih =>
    cases i with
    | zero => simp [ofLe]
    | succ i =>
      simp only [List.take_succ_cons, ofLe, List.getElem_cons_succ]
      rw [ih (by simpa using hi), Nat.pow_succ, Nat.mul_add, Nat.add_assoc]
      congr 2
      rw [Nat.mul_comm 256, Nat.mul_assoc]
theorem ofLe_drop {l : List UInt8} {i : Nat} (hi : i < l.length) : ofLe (l.drop i) = l[i].toNat + 256 * ofLe (l.drop (i + 1)) := by
  rw [List.drop_eq_getElem_cons hi]; rfl
/-- One byte more, by shifting and or. -/
theorem or_byte {a c i : Nat} (ha : a < 256 ^ i) (hc : c < 256) (hi : i < 8) : IntKind.wrap .u64 ((BitVec.ofInt 64 (a : Int) ||| BitVec.ofInt 64 (IntKind.wrap .u64 ((c : Int) * 2 ^ (min ((8 * i : Nat) : Int).toNat 64)))).toNat) = ((a + c * 256 ^ i : Nat) : Int) := by
  have e0 : 256 ^ i = 2 ^ (8 * i) := by rw [show (256 : Nat) = 2 ^ 8 from rfl, ← Nat.pow_mul]
  have hp : 2 ^ (8 * i) * 256 ≤ 2 ^ 64 := by
    have : 2 ^ (8 * i) * 2 ^ 8 ≤ 2 ^ 64 := by rw [← Nat.pow_add]; exact Nat.pow_le_pow_right (by decide) (by omega)
    simpa using this
  have hpos : 0 < 2 ^ (8 * i) := Nat.two_pow_pos _
  have hlt : c * 2 ^ (8 * i) < 2 ^ 64 := by
    have : c * 2 ^ (8 * i) ≤ 255 * 2 ^ (8 * i) := Nat.mul_le_mul_right _ (by omega)
    omega
  have e1 : min ((8 * i : Nat) : Int).toNat 64 = 8 * i := by rw [Int.toNat_natCast]; omega
  have e2 : IntKind.wrap .u64 ((c : Int) * 2 ^ (8 * i)) = ((c * 2 ^ (8 * i) : Nat) : Int) := by
    rw [wrap_u64]
    have : ((c : Int) * 2 ^ (8 * i)) = ((c * 2 ^ (8 * i) : Nat) : Int) := by push_cast; rfl
    rw [this]
    omega
  have h64 : (2 : Nat) ^ 64 = 18446744073709551616 := by decide
  have hap : a < 2 ^ 64 := by omega
  have hor : a ||| c * 2 ^ (8 * i) = a + c * 2 ^ (8 * i) := by
    rw [Nat.or_comm, Nat.mul_comm c, ← Nat.two_pow_add_eq_or_of_lt (by rw [← e0]; exact ha), Nat.add_comm]
  have hsum : a + c * 2 ^ (8 * i) < 2 ^ 64 := by
    have : c * 2 ^ (8 * i) ≤ 255 * 2 ^ (8 * i) := Nat.mul_le_mul_right _ (by omega)
    omega
  rw [e1, e2, wrap_u64, BitVec.ofInt_natCast, BitVec.ofInt_natCast, BitVec.toNat_or, BitVec.toNat_ofNat, BitVec.toNat_ofNat, Nat.mod_eq_of_lt hap, Nat.mod_eq_of_lt hlt, hor, e0]
  omega
theorem or_byte' {a c i : Nat} (ha : a < 256 ^ i) (hc : c < 256) (hi : i < 8) : IntKind.wrap .u64 ((BitVec.ofInt 64 (a : Int) ||| BitVec.ofInt 64 (IntKind.wrap .u64 ((c : Int) * 2 ^ (min ((8 * i : Nat) : Int).toNat (IntKind.bits .u64))))).toNat) = ((a + c * 256 ^ i : Nat) : Int) := or_byte ha hc hi
theorem binOr {P : Program} {t : TypeId} {cx cy : Bool} {a b : Int} : binG P .or t cx cy (.int .u64 a) (.int .u64 b) = some (.int .u64 (IntKind.wrap .u64 (BitVec.ofInt 64 a ||| BitVec.ofInt 64 b).toNat)) := by simp [binG, notUndef, guardA, binA, intA]; rfl

/-- A reader lies in the heap: its bytes lie where q says. -/
def RdAt (q : Nat → Prop) (H : List Block) (ix : Nat) (s : RS) : Prop := ∃ vb, H[ix]? = some (.row ⟨115, 2, [vb, .int .i64 s.2], false, false⟩) ∧ BH H vb s.1 ∧ ∀ k, vb.loc k → q k
/-- The document's reader. -/
def RfAt (q : Nat → Prop) (H : List Block) (ix : Nat) (s : RS) : Prop := ∃ vb B i, H[ix]? = some (.row ⟨46, 3, [vb, .int .i64 (i : Nat), .int .i64 s.2], false, false⟩) ∧ BH H vb B ∧ i ≤ B.length ∧ s.1 = B.drop i ∧ B.length < 1000000 ∧ ∀ k, vb.loc k → q k
section
variable {H H' : List Block} {S : List (List Block)} {p q : Nat → Prop} {ix n : Nat} {s : RS}
theorem RdAt.upd (h : RdAt q H ix s) (u : UpdH p H H') (h1 : ¬ p ix) (h2 : ∀ k, q k → ¬ p k) : RdAt q H' ix s := by
  obtain ⟨vb, h3, h4, h5⟩ := h
  exact ⟨vb, u.get h3 h1, h4.upd u (fun i hi => h2 i (h5 i hi)), h5⟩
theorem RfAt.upd (h : RfAt q H ix s) (u : UpdH p H H') (h1 : ¬ p ix) (h2 : ∀ k, q k → ¬ p k) : RfAt q H' ix s := by
  obtain ⟨vb, B, i, h3, h4, h5, h6, h7, h8⟩ := h
  exact ⟨vb, B, i, u.get h3 h1, h4.upd u (fun i hi => h2 i (h8 i hi)), h5, h6, h7, h8⟩
theorem RdAt.lt (h : RdAt q H ix s) : ix < H.length := by
  obtain ⟨vb, h3, _⟩ := h
  exact (List.getElem?_eq_some_iff.1 h3).1
theorem RfAt.lt (h : RfAt q H ix s) : ix < H.length := by
  obtain ⟨vb, B, i, h3, _⟩ := h
  exact (List.getElem?_eq_some_iff.1 h3).1
theorem rd_a0 {vb : AV} {e : Int} (h : H[ix]? = some (.row ⟨115, 2, [vb, .int .i64 e], false, false⟩)) : fieldAddrA Try.prog 115 (.ptr ⟨0, ix, 0⟩) 0 ⟨H, S⟩ = some (.ptr ⟨0, ix, 0⟩) := field_addr (off := 0) ti115 rfl rfl ti22 (heap_row h)
theorem rd_a1 {vb : AV} {e : Int} (h : H[ix]? = some (.row ⟨115, 2, [vb, .int .i64 e], false, false⟩)) : fieldAddrA Try.prog 115 (.ptr ⟨0, ix, 0⟩) 1 ⟨H, S⟩ = some (.ptr ⟨0, ix, 1⟩) := field_addr (off := 1) ti115 rfl rfl ti44 (heap_row h)
theorem rd_l0 {vb : AV} {e : Int} (h : H[ix]? = some (.row ⟨115, 2, [vb, .int .i64 e], false, false⟩)) : loadA Try.prog 22 (.ptr ⟨0, ix, 0⟩) ⟨H, S⟩ = some vb := by rw [load_one ti22 rfl (heap_row h)]; rfl
theorem rd_l1 {vb : AV} {e : Int} (h : H[ix]? = some (.row ⟨115, 2, [vb, .int .i64 e], false, false⟩)) : loadA Try.prog 44 (.ptr ⟨0, ix, 1⟩) ⟨H, S⟩ = some (.int .i64 e) := by rw [load_one ti44 rfl (heap_row h)]; rfl
theorem rd_s0 {vb x : AV} {e : Int} (h : H[ix]? = some (.row ⟨115, 2, [vb, .int .i64 e], false, false⟩)) (hx : x.st = true) (hc : x.cells = [x]) : stores Try.prog 22 (.ptr ⟨0, ix, 0⟩) x ⟨H, S⟩ = some (.undef, ⟨H.set ix (.row ⟨115, 2, [x, .int .i64 e], false, false⟩), S⟩) := by
  rw [store_cell ti22 (heap_row h) rfl rfl rfl (by simp) hx hc, mem_set0]; rfl
theorem rd_s1 {vb : AV} {e e' : Int} (h : H[ix]? = some (.row ⟨115, 2, [vb, .int .i64 e], false, false⟩)) : stores Try.prog 44 (.ptr ⟨0, ix, 1⟩) (.int .i64 e') ⟨H, S⟩ = some (.undef, ⟨H.set ix (.row ⟨115, 2, [vb, .int .i64 e'], false, false⟩), S⟩) := by
  rw [store_cell ti44 (heap_row h) rfl rfl rfl (by simp) rfl rfl, mem_set0]; rfl
theorem rf_a0 {vb : AV} {i e : Int} (h : H[ix]? = some (.row ⟨46, 3, [vb, .int .i64 i, .int .i64 e], false, false⟩)) : fieldAddrA Try.prog 46 (.ptr ⟨0, ix, 0⟩) 0 ⟨H, S⟩ = some (.ptr ⟨0, ix, 0⟩) := field_addr (off := 0) ti46 rfl rfl ti22 (heap_row h)
theorem rf_a1 {vb : AV} {i e : Int} (h : H[ix]? = some (.row ⟨46, 3, [vb, .int .i64 i, .int .i64 e], false, false⟩)) : fieldAddrA Try.prog 46 (.ptr ⟨0, ix, 0⟩) 1 ⟨H, S⟩ = some (.ptr ⟨0, ix, 1⟩) := field_addr (off := 1) ti46 rfl rfl ti3 (heap_row h)
theorem rf_a2 {vb : AV} {i e : Int} (h : H[ix]? = some (.row ⟨46, 3, [vb, .int .i64 i, .int .i64 e], false, false⟩)) : fieldAddrA Try.prog 46 (.ptr ⟨0, ix, 0⟩) 2 ⟨H, S⟩ = some (.ptr ⟨0, ix, 2⟩) := field_addr (off := 2) ti46 rfl rfl ti44 (heap_row h)
theorem rf_l0 {vb : AV} {i e : Int} (h : H[ix]? = some (.row ⟨46, 3, [vb, .int .i64 i, .int .i64 e], false, false⟩)) : loadA Try.prog 22 (.ptr ⟨0, ix, 0⟩) ⟨H, S⟩ = some vb := by rw [load_one ti22 rfl (heap_row h)]; rfl
theorem rf_l1 {vb : AV} {i e : Int} (h : H[ix]? = some (.row ⟨46, 3, [vb, .int .i64 i, .int .i64 e], false, false⟩)) : loadA Try.prog 3 (.ptr ⟨0, ix, 1⟩) ⟨H, S⟩ = some (.int .i64 i) := by rw [load_one ti3 rfl (heap_row h)]; rfl
theorem rf_l2 {vb : AV} {i e : Int} (h : H[ix]? = some (.row ⟨46, 3, [vb, .int .i64 i, .int .i64 e], false, false⟩)) : loadA Try.prog 44 (.ptr ⟨0, ix, 2⟩) ⟨H, S⟩ = some (.int .i64 e) := by rw [load_one ti44 rfl (heap_row h)]; rfl
theorem rf_s1 {vb : AV} {i e i' : Int} (h : H[ix]? = some (.row ⟨46, 3, [vb, .int .i64 i, .int .i64 e], false, false⟩)) : stores Try.prog 3 (.ptr ⟨0, ix, 1⟩) (.int .i64 i') ⟨H, S⟩ = some (.undef, ⟨H.set ix (.row ⟨46, 3, [vb, .int .i64 i', .int .i64 e], false, false⟩), S⟩) := by
  rw [store_cell ti3 (heap_row h) rfl rfl rfl (by simp) rfl rfl, mem_set0]; rfl
theorem rf_s2 {vb : AV} {i e e' : Int} (h : H[ix]? = some (.row ⟨46, 3, [vb, .int .i64 i, .int .i64 e], false, false⟩)) : stores Try.prog 44 (.ptr ⟨0, ix, 2⟩) (.int .i64 e') ⟨H, S⟩ = some (.undef, ⟨H.set ix (.row ⟨46, 3, [vb, .int .i64 i, .int .i64 e'], false, false⟩), S⟩) := by
  rw [store_cell ti44 (heap_row h) rfl rfl rfl (by simp) rfl rfl, mem_set0]; rfl
theorem rfG_a2 {vb : AV} {i e : Int} {M' : Mem} (h : M'.get 0 ix = some (.row ⟨46, 3, [vb, .int .i64 i, .int .i64 e], false, false⟩)) : fieldAddrA Try.prog 46 (.ptr ⟨0, ix, 0⟩) 2 M' = some (.ptr ⟨0, ix, 2⟩) :=
  field_addr (r := ⟨46, 3, [vb, .int .i64 i, .int .i64 e], false, false⟩) (off := 2) ti46 rfl rfl ti44 (by unfold getRow; simp only [h])
theorem rfG_l2 {vb : AV} {i e : Int} {M' : Mem} (h : M'.get 0 ix = some (.row ⟨46, 3, [vb, .int .i64 i, .int .i64 e], false, false⟩)) : loadA Try.prog 44 (.ptr ⟨0, ix, 2⟩) M' = some (.int .i64 e) := by
  rw [load_one (r := ⟨46, 3, [vb, .int .i64 i, .int .i64 e], false, false⟩) ti44 rfl (by unfold getRow; simp only [h])]; rfl
theorem BH.one {v : AV} {l : List UInt8} (h : BH H v l) : v.st = true ∧ v.cells = [v] := ⟨RH.st h, by rcases h with ⟨rfl, _⟩ | ⟨ix, off, c, r, rfl, _⟩ <;> rfl⟩
/-- What a reading gives: the reader alone has changed. -/
def ReadB (q : Nat → Prop) (H : List Block) (S : List (List Block)) (ix : Nat) (At : List Block → Nat → RS → Prop) (r : List UInt8 × RS) (v : AV) (M' : Mem) : Prop := ∃ H', M' = ⟨H', S⟩ ∧ UpdH (· = ix) H H' ∧ At H' ix r.2 ∧ BH H' v r.1 ∧ ∀ k, v.loc k → q k
theorem set_row {b : Block} (h : ix < H.length) : (H.set ix b)[ix]? = some b := List.getElem?_set_self h
theorem take (h : RdAt q H ix s) (hq : ¬ q ix) (hn : n < 9223372036854775808) : AC Try.prog 88 [.ptr ⟨0, ix, 0⟩, .int .i64 n] ⟨H, S⟩ (ReadB q H S ix (RdAt q) (rTake s n)) := by
  refine AC_of_WE Try.func88 rfl ?_
  simp only [Try.ntmps88, List.length_cons, List.length_nil, List.replicate, List.cons_append, List.nil_append, mem_enter]
  obtain ⟨l, e⟩ := s
  obtain ⟨vb, hr, hb, hqv⟩ := h
  simp only at hr hb
  have hlt := (List.getElem?_eq_some_iff.1 hr).1
  (repeat refine W_seq ?_); refine W_regionT [] ?_
  simp only [go_sem]
  rcases (show (e = 0 ∧ l.length < n) ∨ (e = 0 ∧ ¬ l.length < n) ∨ e ≠ 0 by omega) with ⟨rfl, hc⟩ | ⟨rfl, hc⟩ | he
  · have hx : (l.length : Int) < (n : Int) := by omega
    (repeat refine W_seq ?_); refine W_regionT [] ?_
    simp only [go_sem, rd_a0 hr, rd_a1 hr, rd_l0 hr, rd_l1 hr, hb.len, hx]
    (repeat refine W_seq ?_)
    refine W_cond (b := true) rfl ?_
    simp only [if_true]
    (repeat refine W_seq ?_); refine W_regionT [] ?_
    simp only [go_sem, rd_a1 hr, rd_s1 hr]
    (repeat refine W_seq ?_); refine W_regionT [] ?_
    simp only [go_sem, rd_a1 (set_row hlt), rd_l1 (set_row hlt), show ¬ (3 : Int) = 0 by decide]
    (repeat refine W_seq ?_)
    refine W_cond (b := true) rfl ?_
    simp only [if_true]
    (repeat refine W_seq ?_); refine W_regionT [] ?_
    simp only [go_sem]
    refine W_ret ⟨.inr rfl, _, rfl, rfl, _, rfl, UpdH.set, ?_⟩
    have hv : rTake (l, 0) n = ([], (l, 3)) := by simp [rTake, hc]
    rw [hv]
    exact ⟨⟨vb, set_row hlt, hb.upd UpdH.set (fun k hk e => hq (by rw [← e]; exact hqv k hk)), hqv⟩, BH.nil, fun k hk => hk.elim⟩
  · have hx : ¬ (l.length : Int) < (n : Int) := by omega
    (repeat refine W_seq ?_); refine W_regionT [] ?_
    simp only [go_sem, rd_a0 hr, rd_a1 hr, rd_l0 hr, rd_l1 hr, hb.len, hx]
    (repeat refine W_seq ?_)
    refine W_cond (b := false) rfl ?_
    simp only [Bool.false_eq_true, if_false]
    refine W_skip ?_
    simp only [go_sem]
    (repeat refine W_seq ?_); refine W_regionT [] ?_
    simp only [go_sem, rd_a1 hr, rd_l1 hr]
    (repeat refine W_seq ?_)
    refine W_cond (b := false) rfl ?_
    simp only [Bool.false_eq_true, if_false]
    refine W_skip ?_
    simp only [go_sem]
    obtain ⟨v1, a1, b1, c1⟩ := hb.cut3 (S := [] :: S) (n := n) (by omega)
    (repeat refine W_seq ?_); refine W_regionT [] ?_
    simp only [go_sem, rd_a0 hr, rd_l0 hr, a1]
    obtain ⟨v2, a2, b2, c2⟩ := hb.cut (S := [] :: S) (lo := some (.int .i64 n)) (hi := none) (a := n) (b := l.length) (by simp [onat, natOf]) rfl (by omega) (Nat.le_refl _)
    rw [List.take_length] at b2
    (repeat refine W_seq ?_); refine W_regionT [] ?_
    simp only [go_sem, rd_a0 hr, rd_l0 hr, a2, rd_s0 hr b2.one.1 b2.one.2]
    (repeat refine W_seq ?_); refine W_regionT [] ?_
    simp only [go_sem]
    refine W_ret ⟨.inr rfl, _, rfl, RH.lev0 b1, _, rfl, UpdH.set, ?_⟩
    have hv : rTake (l, 0) n = (l.take n, (l.drop n, 0)) := by simp [rTake, hc]
    rw [hv]
    have hnq : ∀ k, q k → ¬ k = ix := fun k hk e => hq (by rw [← e]; exact hk)
    exact ⟨⟨v2, set_row hlt, b2.upd UpdH.set (fun k hk => hnq k (hqv k (c2 k hk))), fun k hk => hqv k (c2 k hk)⟩, b1.upd UpdH.set (fun k hk => hnq k (hqv k (c1 k hk))), fun k hk => hqv k (c1 k hk)⟩
  · have hx : ¬ e = 0 := he
    (repeat refine W_seq ?_); refine W_regionT [] ?_
    simp only [go_sem, rd_a0 hr, rd_a1 hr, rd_l0 hr, rd_l1 hr, hb.len, hx]
    (repeat refine W_seq ?_)
    refine W_cond (b := false) rfl ?_
    simp only [Bool.false_eq_true, if_false]
    refine W_skip ?_
    simp only [go_sem]
    (repeat refine W_seq ?_); refine W_regionT [] ?_
    simp only [go_sem, rd_a1 hr, rd_l1 hr, hx]
    (repeat refine W_seq ?_)
    refine W_cond (b := true) rfl ?_
    simp only [if_true]
    (repeat refine W_seq ?_); refine W_regionT [] ?_
    simp only [go_sem]
    refine W_ret ⟨.inr rfl, _, rfl, rfl, H, rfl, UpdH.refl, ?_⟩
    have hv : rTake (l, e) n = ([], (l, e)) := by simp [rTake, he]
    rw [hv]
    exact ⟨⟨vb, hr, hb, hqv⟩, BH.nil, fun k hk => hk.elim⟩
theorem get83 (h : RdAt q H ix s) (hq : ¬ q ix) : AC Try.prog 83 [.ptr ⟨0, ix, 0⟩, .int .i64 (1 : Nat)] ⟨H, S⟩ (fun v M' => v = .int .u8 ((rNum s 1).1 : Nat) ∧ ∃ H', M' = ⟨H', S⟩ ∧ UpdH (· = ix) H H' ∧ RdAt q H' ix (rNum s 1).2) := by
  refine AC_of_WE Try.func83 rfl ?_
  simp only [Try.ntmps83, List.length_cons, List.length_nil, List.replicate, List.cons_append, List.nil_append, mem_enter]
  (repeat refine W_seq ?_); refine W_regionT [] ?_
  simp only [go_sem]
  (repeat refine W_seq ?_); refine W_regionT [] ?_
  simp only [go_sem]
  (repeat refine W_seq ?_); refine W_regionT [] ?_
  simp only [go_sem]
  refine AT_call rfl rfl (take h hq (by omega)) fun v M1 hd1 h1 => ?_
  obtain ⟨H1, rfl, u1, r1, b1, _⟩ := h1
  have hle := rTake_len (s := s) (n := 1)
  generalize hl : (rTake s 1).1 = l at b1 hle
  have hle1 : l.length ≤ 1 := hle.1
  simp only [go_sem, b1.len]
  (repeat refine W_seq ?_)
  refine W_block (W_loop (L_inv (fun j env M' => ∃ (x0 x1 x2 x3 x4 x6 x7 x8 x9 x13 x14 x15 x16 x17 x18 x19 x20 x21 x22 x23 x24 x25 x26 : AV) (i : Nat), env = [x0, x1, x2, x3, x4, .int .u64 (ofLe (l.take i) : Nat), x6, x7, x8, x9, v, .int .i64 l.length, .int .i64 i, x13, x14, x15, x16, x17, x18, x19, x20, x21, x22, x23, x24, x25, x26] ∧ i + j = l.length ∧ M' = ⟨H1, [] :: S⟩) (fun j env M2 => ?_) (l.length) ?_))
  case refine_2 => exact ⟨_, _, _, _, _, _, _, _, _, _, _, _, _, _, _, _, _, _, _, _, _, _, _, 0, rfl, by omega, rfl⟩
  refine exE fun x0 => exE fun x1 => exE fun x2 => exE fun x3 => exE fun x4 => exE fun x6 => exE fun x7 => exE fun x8 => exE fun x9 => exE fun x13 => exE fun x14 => exE fun x15 => exE fun x16 => exE fun x17 => exE fun x18 => exE fun x19 => exE fun x20 => exE fun x21 => exE fun x22 => exE fun x23 => exE fun x24 => exE fun x25 => exE fun x26 => ?_
  rintro ⟨i, rfl, hij, rfl⟩
  (repeat refine W_seq ?_); refine W_regionT [] ?_
  simp only [go_sem]
  (repeat refine W_seq ?_)
  refine W_cond_if rfl (fun hb => ?_) (fun hb => ?_)
  · have hi : i < l.length := by simpa using hb
    refine W_skip ?_
    simp only [go_sem]
    (repeat refine W_seq ?_)
    refine W_block ?_
    obtain ⟨q1, a1, a2⟩ := b1.at (S := [] :: S) (kk := .i64) hi
    (repeat refine W_seq ?_); refine W_regionT [] ?_
    simp only [go_sem, a1, a2]
    (repeat refine W_seq ?_); refine W_regionT [] ?_
    simp only [go_sem, show IntKind.wrap .u64 ((l[i].toNat : Nat) : Int) = (l[i].toNat : Nat) by rw [wrap_u64]; have := l[i].toNat_lt; omega, show (8 : Int) * (i : Int) = ((8 * i : Nat) : Int) by push_cast; rfl, wrap_i64 (n := ((8 * i : Nat) : Int)) (by omega) (by omega), bin_shl (k := .u64) (b := ((8 * i : Nat) : Int)) (by omega), binOr, or_byte (a := ofLe (l.take i)) (c := l[i].toNat) (i := i) (by have := ofLe_lt (l.take i); rwa [List.length_take, Nat.min_eq_left (by omega)] at this) l[i].toNat_lt (by omega)]
    (repeat refine W_seq ?_); refine W_regionT [] ?_
    simp only [go_sem, show (i : Int) + 1 = ((i + 1 : Nat) : Int) from rfl, wrap_i64 (n := ((i + 1 : Nat) : Int)) (by omega) (by omega)]
    rw [← ofLe_take hi]
    exact ⟨j - 1, by omega, _, _, _, _, _, _, _, _, _, _, _, _, _, _, _, _, _, _, _, _, _, _, _, i + 1, rfl, by omega, trivial⟩
  · have hi : l.length = i := by simp at hb; omega
    rw [show l.take i = l by rw [← hi, List.take_length]]
    (repeat refine W_seq ?_)
    refine W_exit ?_
    simp only [go_sem]
    have hlv := rNum_lt (s := s) (n := 1)
    have hlv2 : (rNum s 1).1 = ofLe l := by rw [rNum, hl]
    rw [hlv2] at hlv
    (repeat refine W_seq ?_); refine W_regionT [] ?_
    simp only [go_sem, wrap_u8, show ((ofLe l : Nat) : Int) % 256 = (ofLe l : Nat) by omega]
    exact W_ret ⟨.inr rfl, _, rfl, rfl, by rw [hlv2]; rfl, H1, rfl, u1, by rw [rNum]; exact r1⟩
theorem num35 (h : RdAt q H ix s) (hq : ¬ q ix) : AC Try.prog 35 [.ptr ⟨0, ix, 0⟩] ⟨H, S⟩ (fun v M' => v = .int .u8 ((rNum s 1).1 : Nat) ∧ ∃ H', M' = ⟨H', S⟩ ∧ UpdH (· = ix) H H' ∧ RdAt q H' ix (rNum s 1).2) := by
  refine AC_of_WE Try.func35 rfl ?_
  simp only [Try.ntmps35, List.length_cons, List.length_nil, List.replicate, List.cons_append, List.nil_append, mem_enter]
  (repeat refine W_seq ?_); refine W_regionT [] ?_
  simp only [go_sem]
  (repeat refine W_seq ?_); refine W_regionT [] ?_
  simp only [go_sem]
  refine AT_call rfl rfl (get83 h hq) fun v M1 hd1 h1 => ?_
  obtain ⟨hv, H1, rfl, u1, r1⟩ := h1; subst hv
  simp only [go_sem]
  exact W_ret ⟨.inr rfl, _, rfl, rfl, rfl, H1, rfl, u1, r1⟩
theorem get85 (h : RdAt q H ix s) (hq : ¬ q ix) : AC Try.prog 85 [.ptr ⟨0, ix, 0⟩, .int .i64 (2 : Nat)] ⟨H, S⟩ (fun v M' => v = .int .u16 ((rNum s 2).1 : Nat) ∧ ∃ H', M' = ⟨H', S⟩ ∧ UpdH (· = ix) H H' ∧ RdAt q H' ix (rNum s 2).2) := by
  refine AC_of_WE Try.func85 rfl ?_
  simp only [Try.ntmps85, List.length_cons, List.length_nil, List.replicate, List.cons_append, List.nil_append, mem_enter]
  (repeat refine W_seq ?_); refine W_regionT [] ?_
  simp only [go_sem]
  (repeat refine W_seq ?_); refine W_regionT [] ?_
  simp only [go_sem]
  (repeat refine W_seq ?_); refine W_regionT [] ?_
  simp only [go_sem]
  refine AT_call rfl rfl (take h hq (by omega)) fun v M1 hd1 h1 => ?_
  obtain ⟨H1, rfl, u1, r1, b1, _⟩ := h1
  have hle := rTake_len (s := s) (n := 2)
  generalize hl : (rTake s 2).1 = l at b1 hle
  have hle1 : l.length ≤ 2 := hle.1
  simp only [go_sem, b1.len]
  (repeat refine W_seq ?_)
  refine W_block (W_loop (L_inv (fun j env M' => ∃ (x0 x1 x2 x3 x4 x6 x7 x8 x9 x13 x14 x15 x16 x17 x18 x19 x20 x21 x22 x23 x24 x25 x26 : AV) (i : Nat), env = [x0, x1, x2, x3, x4, .int .u64 (ofLe (l.take i) : Nat), x6, x7, x8, x9, v, .int .i64 l.length, .int .i64 i, x13, x14, x15, x16, x17, x18, x19, x20, x21, x22, x23, x24, x25, x26] ∧ i + j = l.length ∧ M' = ⟨H1, [] :: S⟩) (fun j env M2 => ?_) (l.length) ?_))
  case refine_2 => exact ⟨_, _, _, _, _, _, _, _, _, _, _, _, _, _, _, _, _, _, _, _, _, _, _, 0, rfl, by omega, rfl⟩
  refine exE fun x0 => exE fun x1 => exE fun x2 => exE fun x3 => exE fun x4 => exE fun x6 => exE fun x7 => exE fun x8 => exE fun x9 => exE fun x13 => exE fun x14 => exE fun x15 => exE fun x16 => exE fun x17 => exE fun x18 => exE fun x19 => exE fun x20 => exE fun x21 => exE fun x22 => exE fun x23 => exE fun x24 => exE fun x25 => exE fun x26 => ?_
  rintro ⟨i, rfl, hij, rfl⟩
  (repeat refine W_seq ?_); refine W_regionT [] ?_
  simp only [go_sem]
  (repeat refine W_seq ?_)
  refine W_cond_if rfl (fun hb => ?_) (fun hb => ?_)
  · have hi : i < l.length := by simpa using hb
    refine W_skip ?_
    simp only [go_sem]
    (repeat refine W_seq ?_)
    refine W_block ?_
    obtain ⟨q1, a1, a2⟩ := b1.at (S := [] :: S) (kk := .i64) hi
    (repeat refine W_seq ?_); refine W_regionT [] ?_
    simp only [go_sem, a1, a2]
    (repeat refine W_seq ?_); refine W_regionT [] ?_
    simp only [go_sem, show IntKind.wrap .u64 ((l[i].toNat : Nat) : Int) = (l[i].toNat : Nat) by rw [wrap_u64]; have := l[i].toNat_lt; omega, show (8 : Int) * (i : Int) = ((8 * i : Nat) : Int) by push_cast; rfl, wrap_i64 (n := ((8 * i : Nat) : Int)) (by omega) (by omega), bin_shl (k := .u64) (b := ((8 * i : Nat) : Int)) (by omega), binOr, or_byte (a := ofLe (l.take i)) (c := l[i].toNat) (i := i) (by have := ofLe_lt (l.take i); rwa [List.length_take, Nat.min_eq_left (by omega)] at this) l[i].toNat_lt (by omega)]
    (repeat refine W_seq ?_); refine W_regionT [] ?_
    simp only [go_sem, show (i : Int) + 1 = ((i + 1 : Nat) : Int) from rfl, wrap_i64 (n := ((i + 1 : Nat) : Int)) (by omega) (by omega)]
    rw [← ofLe_take hi]
    exact ⟨j - 1, by omega, _, _, _, _, _, _, _, _, _, _, _, _, _, _, _, _, _, _, _, _, _, _, _, i + 1, rfl, by omega, trivial⟩
  · have hi : l.length = i := by simp at hb; omega
    rw [show l.take i = l by rw [← hi, List.take_length]]
    (repeat refine W_seq ?_)
    refine W_exit ?_
    simp only [go_sem]
    have hlv := rNum_lt (s := s) (n := 2)
    have hlv2 : (rNum s 2).1 = ofLe l := by rw [rNum, hl]
    rw [hlv2] at hlv
    (repeat refine W_seq ?_); refine W_regionT [] ?_
    simp only [go_sem, wrap_u16, show ((ofLe l : Nat) : Int) % 65536 = (ofLe l : Nat) by omega]
    exact W_ret ⟨.inr rfl, _, rfl, rfl, by rw [hlv2]; rfl, H1, rfl, u1, by rw [rNum]; exact r1⟩
theorem num37 (h : RdAt q H ix s) (hq : ¬ q ix) : AC Try.prog 37 [.ptr ⟨0, ix, 0⟩] ⟨H, S⟩ (fun v M' => v = .int .u16 ((rNum s 2).1 : Nat) ∧ ∃ H', M' = ⟨H', S⟩ ∧ UpdH (· = ix) H H' ∧ RdAt q H' ix (rNum s 2).2) := by
  refine AC_of_WE Try.func37 rfl ?_
  simp only [Try.ntmps37, List.length_cons, List.length_nil, List.replicate, List.cons_append, List.nil_append, mem_enter]
  (repeat refine W_seq ?_); refine W_regionT [] ?_
  simp only [go_sem]
  (repeat refine W_seq ?_); refine W_regionT [] ?_
  simp only [go_sem]
  refine AT_call rfl rfl (get85 h hq) fun v M1 hd1 h1 => ?_
  obtain ⟨hv, H1, rfl, u1, r1⟩ := h1; subst hv
  simp only [go_sem]
  exact W_ret ⟨.inr rfl, _, rfl, rfl, rfl, H1, rfl, u1, r1⟩
theorem get86 (h : RdAt q H ix s) (hq : ¬ q ix) : AC Try.prog 86 [.ptr ⟨0, ix, 0⟩, .int .i64 (4 : Nat)] ⟨H, S⟩ (fun v M' => v = .int .u32 ((rNum s 4).1 : Nat) ∧ ∃ H', M' = ⟨H', S⟩ ∧ UpdH (· = ix) H H' ∧ RdAt q H' ix (rNum s 4).2) := by
  refine AC_of_WE Try.func86 rfl ?_
  simp only [Try.ntmps86, List.length_cons, List.length_nil, List.replicate, List.cons_append, List.nil_append, mem_enter]
  (repeat refine W_seq ?_); refine W_regionT [] ?_
  simp only [go_sem]
  (repeat refine W_seq ?_); refine W_regionT [] ?_
  simp only [go_sem]
  (repeat refine W_seq ?_); refine W_regionT [] ?_
  simp only [go_sem]
  refine AT_call rfl rfl (take h hq (by omega)) fun v M1 hd1 h1 => ?_
  obtain ⟨H1, rfl, u1, r1, b1, _⟩ := h1
  have hle := rTake_len (s := s) (n := 4)
  generalize hl : (rTake s 4).1 = l at b1 hle
  have hle1 : l.length ≤ 4 := hle.1
  simp only [go_sem, b1.len]
  (repeat refine W_seq ?_)
  refine W_block (W_loop (L_inv (fun j env M' => ∃ (x0 x1 x2 x3 x4 x6 x7 x8 x9 x13 x14 x15 x16 x17 x18 x19 x20 x21 x22 x23 x24 x25 x26 : AV) (i : Nat), env = [x0, x1, x2, x3, x4, .int .u64 (ofLe (l.take i) : Nat), x6, x7, x8, x9, v, .int .i64 l.length, .int .i64 i, x13, x14, x15, x16, x17, x18, x19, x20, x21, x22, x23, x24, x25, x26] ∧ i + j = l.length ∧ M' = ⟨H1, [] :: S⟩) (fun j env M2 => ?_) (l.length) ?_))
  case refine_2 => exact ⟨_, _, _, _, _, _, _, _, _, _, _, _, _, _, _, _, _, _, _, _, _, _, _, 0, rfl, by omega, rfl⟩
  refine exE fun x0 => exE fun x1 => exE fun x2 => exE fun x3 => exE fun x4 => exE fun x6 => exE fun x7 => exE fun x8 => exE fun x9 => exE fun x13 => exE fun x14 => exE fun x15 => exE fun x16 => exE fun x17 => exE fun x18 => exE fun x19 => exE fun x20 => exE fun x21 => exE fun x22 => exE fun x23 => exE fun x24 => exE fun x25 => exE fun x26 => ?_
  rintro ⟨i, rfl, hij, rfl⟩
  (repeat refine W_seq ?_); refine W_regionT [] ?_
  simp only [go_sem]
  (repeat refine W_seq ?_)
  refine W_cond_if rfl (fun hb => ?_) (fun hb => ?_)
  · have hi : i < l.length := by simpa using hb
    refine W_skip ?_
    simp only [go_sem]
    (repeat refine W_seq ?_)
    refine W_block ?_
    obtain ⟨q1, a1, a2⟩ := b1.at (S := [] :: S) (kk := .i64) hi
    (repeat refine W_seq ?_); refine W_regionT [] ?_
    simp only [go_sem, a1, a2]
    (repeat refine W_seq ?_); refine W_regionT [] ?_
    simp only [go_sem, show IntKind.wrap .u64 ((l[i].toNat : Nat) : Int) = (l[i].toNat : Nat) by rw [wrap_u64]; have := l[i].toNat_lt; omega, show (8 : Int) * (i : Int) = ((8 * i : Nat) : Int) by push_cast; rfl, wrap_i64 (n := ((8 * i : Nat) : Int)) (by omega) (by omega), bin_shl (k := .u64) (b := ((8 * i : Nat) : Int)) (by omega), binOr, or_byte (a := ofLe (l.take i)) (c := l[i].toNat) (i := i) (by have := ofLe_lt (l.take i); rwa [List.length_take, Nat.min_eq_left (by omega)] at this) l[i].toNat_lt (by omega)]
    (repeat refine W_seq ?_); refine W_regionT [] ?_
    simp only [go_sem, show (i : Int) + 1 = ((i + 1 : Nat) : Int) from rfl, wrap_i64 (n := ((i + 1 : Nat) : Int)) (by omega) (by omega)]
    rw [← ofLe_take hi]
    exact ⟨j - 1, by omega, _, _, _, _, _, _, _, _, _, _, _, _, _, _, _, _, _, _, _, _, _, _, _, i + 1, rfl, by omega, trivial⟩
  · have hi : l.length = i := by simp at hb; omega
    rw [show l.take i = l by rw [← hi, List.take_length]]
    (repeat refine W_seq ?_)
    refine W_exit ?_
    simp only [go_sem]
    have hlv := rNum_lt (s := s) (n := 4)
    have hlv2 : (rNum s 4).1 = ofLe l := by rw [rNum, hl]
    rw [hlv2] at hlv
    (repeat refine W_seq ?_); refine W_regionT [] ?_
    simp only [go_sem, wrap_u32, show ((ofLe l : Nat) : Int) % 4294967296 = (ofLe l : Nat) by omega]
    exact W_ret ⟨.inr rfl, _, rfl, rfl, by rw [hlv2]; rfl, H1, rfl, u1, by rw [rNum]; exact r1⟩
theorem num38 (h : RdAt q H ix s) (hq : ¬ q ix) : AC Try.prog 38 [.ptr ⟨0, ix, 0⟩] ⟨H, S⟩ (fun v M' => v = .int .u32 ((rNum s 4).1 : Nat) ∧ ∃ H', M' = ⟨H', S⟩ ∧ UpdH (· = ix) H H' ∧ RdAt q H' ix (rNum s 4).2) := by
  refine AC_of_WE Try.func38 rfl ?_
  simp only [Try.ntmps38, List.length_cons, List.length_nil, List.replicate, List.cons_append, List.nil_append, mem_enter]
  (repeat refine W_seq ?_); refine W_regionT [] ?_
  simp only [go_sem]
  (repeat refine W_seq ?_); refine W_regionT [] ?_
  simp only [go_sem]
  refine AT_call rfl rfl (get86 h hq) fun v M1 hd1 h1 => ?_
  obtain ⟨hv, H1, rfl, u1, r1⟩ := h1; subst hv
  simp only [go_sem]
  exact W_ret ⟨.inr rfl, _, rfl, rfl, rfl, H1, rfl, u1, r1⟩
theorem get87 (h : RdAt q H ix s) (hq : ¬ q ix) : AC Try.prog 87 [.ptr ⟨0, ix, 0⟩, .int .i64 (8 : Nat)] ⟨H, S⟩ (fun v M' => v = .int .u64 ((rNum s 8).1 : Nat) ∧ ∃ H', M' = ⟨H', S⟩ ∧ UpdH (· = ix) H H' ∧ RdAt q H' ix (rNum s 8).2) := by
  refine AC_of_WE Try.func87 rfl ?_
  simp only [Try.ntmps87, List.length_cons, List.length_nil, List.replicate, List.cons_append, List.nil_append, mem_enter]
  (repeat refine W_seq ?_); refine W_regionT [] ?_
  simp only [go_sem]
  (repeat refine W_seq ?_); refine W_regionT [] ?_
  simp only [go_sem]
  (repeat refine W_seq ?_); refine W_regionT [] ?_
  simp only [go_sem]
  refine AT_call rfl rfl (take h hq (by omega)) fun v M1 hd1 h1 => ?_
  obtain ⟨H1, rfl, u1, r1, b1, _⟩ := h1
  have hle := rTake_len (s := s) (n := 8)
  generalize hl : (rTake s 8).1 = l at b1 hle
  have hle1 : l.length ≤ 8 := hle.1
  simp only [go_sem, b1.len]
  (repeat refine W_seq ?_)
  refine W_block (W_loop (L_inv (fun j env M' => ∃ (x0 x1 x2 x3 x4 x6 x7 x8 x9 x13 x14 x15 x16 x17 x18 x19 x20 x21 x22 x23 x24 x25 : AV) (i : Nat), env = [x0, x1, x2, x3, x4, .int .u64 (ofLe (l.take i) : Nat), x6, x7, x8, x9, v, .int .i64 l.length, .int .i64 i, x13, x14, x15, x16, x17, x18, x19, x20, x21, x22, x23, x24, x25] ∧ i + j = l.length ∧ M' = ⟨H1, [] :: S⟩) (fun j env M2 => ?_) (l.length) ?_))
  case refine_2 => exact ⟨_, _, _, _, _, _, _, _, _, _, _, _, _, _, _, _, _, _, _, _, _, _, 0, rfl, by omega, rfl⟩
  refine exE fun x0 => exE fun x1 => exE fun x2 => exE fun x3 => exE fun x4 => exE fun x6 => exE fun x7 => exE fun x8 => exE fun x9 => exE fun x13 => exE fun x14 => exE fun x15 => exE fun x16 => exE fun x17 => exE fun x18 => exE fun x19 => exE fun x20 => exE fun x21 => exE fun x22 => exE fun x23 => exE fun x24 => exE fun x25 => ?_
  rintro ⟨i, rfl, hij, rfl⟩
  (repeat refine W_seq ?_); refine W_regionT [] ?_
  simp only [go_sem]
  (repeat refine W_seq ?_)
  refine W_cond_if rfl (fun hb => ?_) (fun hb => ?_)
  · have hi : i < l.length := by simpa using hb
    refine W_skip ?_
    simp only [go_sem]
    (repeat refine W_seq ?_)
    refine W_block ?_
    obtain ⟨q1, a1, a2⟩ := b1.at (S := [] :: S) (kk := .i64) hi
    (repeat refine W_seq ?_); refine W_regionT [] ?_
    simp only [go_sem, a1, a2]
    (repeat refine W_seq ?_); refine W_regionT [] ?_
    simp only [go_sem, show IntKind.wrap .u64 ((l[i].toNat : Nat) : Int) = (l[i].toNat : Nat) by rw [wrap_u64]; have := l[i].toNat_lt; omega, show (8 : Int) * (i : Int) = ((8 * i : Nat) : Int) by push_cast; rfl, wrap_i64 (n := ((8 * i : Nat) : Int)) (by omega) (by omega), bin_shl (k := .u64) (b := ((8 * i : Nat) : Int)) (by omega), binOr, or_byte (a := ofLe (l.take i)) (c := l[i].toNat) (i := i) (by have := ofLe_lt (l.take i); rwa [List.length_take, Nat.min_eq_left (by omega)] at this) l[i].toNat_lt (by omega)]
    (repeat refine W_seq ?_); refine W_regionT [] ?_
    simp only [go_sem, show (i : Int) + 1 = ((i + 1 : Nat) : Int) from rfl, wrap_i64 (n := ((i + 1 : Nat) : Int)) (by omega) (by omega)]
    rw [← ofLe_take hi]
    exact ⟨j - 1, by omega, _, _, _, _, _, _, _, _, _, _, _, _, _, _, _, _, _, _, _, _, _, _, i + 1, rfl, by omega, trivial⟩
  · have hi : l.length = i := by simp at hb; omega
    rw [show l.take i = l by rw [← hi, List.take_length]]
    (repeat refine W_seq ?_)
    refine W_exit ?_
    simp only [go_sem]
    have hlv := rNum_lt (s := s) (n := 8)
    have hlv2 : (rNum s 8).1 = ofLe l := by rw [rNum, hl]
    rw [hlv2] at hlv
    (repeat refine W_seq ?_); refine W_regionT [] ?_
    simp only [go_sem, wrap_u64, show ((ofLe l : Nat) : Int) % 18446744073709551616 = (ofLe l : Nat) by omega]
    exact W_ret ⟨.inr rfl, _, rfl, rfl, by rw [hlv2]; rfl, H1, rfl, u1, by rw [rNum]; exact r1⟩
theorem num39 (h : RdAt q H ix s) (hq : ¬ q ix) : AC Try.prog 39 [.ptr ⟨0, ix, 0⟩] ⟨H, S⟩ (fun v M' => v = .int .u64 ((rNum s 8).1 : Nat) ∧ ∃ H', M' = ⟨H', S⟩ ∧ UpdH (· = ix) H H' ∧ RdAt q H' ix (rNum s 8).2) := by
  refine AC_of_WE Try.func39 rfl ?_
  simp only [Try.ntmps39, List.length_cons, List.length_nil, List.replicate, List.cons_append, List.nil_append, mem_enter]
  (repeat refine W_seq ?_); refine W_regionT [] ?_
  simp only [go_sem]
  (repeat refine W_seq ?_); refine W_regionT [] ?_
  simp only [go_sem]
  refine AT_call rfl rfl (get87 h hq) fun v M1 hd1 h1 => ?_
  obtain ⟨hv, H1, rfl, u1, r1⟩ := h1; subst hv
  simp only [go_sem]
  exact W_ret ⟨.inr rfl, _, rfl, rfl, rfl, H1, rfl, u1, r1⟩
end
end Go.Proofs.Ytlpcbfndjffpfaa
