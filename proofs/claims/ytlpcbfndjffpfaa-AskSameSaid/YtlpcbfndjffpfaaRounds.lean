/- The walk of LittleRound. -/
import Derived.Test.YtlpcbfndjffpfaaLittle
set_option maxRecDepth 100000
set_option maxHeartbeats 4000000
set_option linter.unusedSimpArgs false
set_option linter.unusedVariables false
namespace Go.Proofs.Ytlpcbfndjffpfaa
open Go.Abs
/-- What is laid of a number and a text. -/
def recOf (n : Nat) (t : List UInt8) : List UInt8 := le n 8 ++ (le t.length 2 ++ t) ++ le n 2 ++ (le t.length 4 ++ t) ++ le n 1 ++ le n 4
def accOf (zs : List (Nat × List UInt8)) : List UInt8 := zs.flatMap fun z => recOf z.1 z.2
theorem ofLe_le (n k : Nat) : ofLe (le n k) = n % 256 ^ k := by
  induction k generalizing n with
  | zero => simp [le, ofLe, Nat.mod_one]
  | succ k ih =>
    have e : le n (k + 1) = UInt8.ofNat (n % 256) :: le (n / 256) k := rfl
    rw [e, ofLe, ih]
    have : (UInt8.ofNat (n % 256)).toNat = n % 256 := by rw [UInt8.toNat_ofNat']; omega
    rw [this, Nat.pow_succ, Nat.mul_comm (256 ^ k), Nat.mod_mul]
theorem rTake_app {a r : List UInt8} {n : Nat} (h : a.length = n) : rTake (a ++ r, 0) n = (a, (r, 0)) := by
  unfold rTake
  rw [if_neg (by simp), if_neg (by simp; omega)]
  simp only [← h, List.take_left', List.drop_left']
theorem rNum_le {n k : Nat} {r : List UInt8} : rNum (le n k ++ r, 0) k = (n % 256 ^ k, (r, 0)) := by
  unfold rNum
  rw [rTake_app (le_length n k), ofLe_le]
theorem rText_app {t r : List UInt8} (h : t.length < 65536) : rText ((le t.length 2 ++ t) ++ r, 0) = (t, (r, 0)) := by
  unfold rText
  rw [List.append_assoc, rNum_le]
  simp only
  rw [Nat.mod_eq_of_lt (by simpa using h), rTake_app rfl]
theorem rData_app {t r : List UInt8} {m : Nat} (h : t.length ≤ m) (hm : m < 1000000) : rData ((le t.length 4 ++ t) ++ r, 0) m = (t, (r, 0)) := by
  unfold rData
  rw [List.append_assoc, rNum_le]
  simp only
  rw [Nat.mod_eq_of_lt (by simp; omega), if_neg (by omega), rTake_app rfl]
theorem rec_steps {n : Nat} {t r : List UInt8} (hn : n < 18446744073709551616) (ht : t.length ≤ 20) : ∃ s1 s2 s3 s4 s5 : RS, rNum (recOf n t ++ r, 0) 8 = (n, s1) ∧ rText s1 = (t, s2) ∧ rNum s2 2 = (n % 65536, s3) ∧ rData s3 20 = (t, s4) ∧ rNum s4 1 = (n % 256, s5) ∧ rNum s5 4 = (n % 4294967296, (r, 0)) := by
  refine ⟨_, _, _, _, _, ?_, rText_app (by omega), rNum_le, rData_app ht (by decide), rNum_le, rNum_le⟩
  have : recOf n t ++ r = le n 8 ++ ((le t.length 2 ++ t) ++ (le n 2 ++ ((le t.length 4 ++ t) ++ (le n 1 ++ (le n 4 ++ r))))) := by simp [recOf, List.append_assoc]
  rw [this, rNum_le, Nat.mod_eq_of_lt (by simpa using hn)]
theorem recOf_length {n : Nat} {t : List UInt8} (ht : t.length ≤ 20) : (recOf n t).length ≤ 61 := by
  simp [recOf, le_length]; omega
theorem accOf_length : ∀ {zs : List (Nat × List UInt8)}, (∀ z ∈ zs, z.2.length ≤ 20) → (accOf zs).length ≤ 61 * zs.length
  | [], _ => by simp [accOf]
  | z :: zs, h => by
    have h1 := accOf_length (zs := zs) fun x hx => h x (List.mem_cons_of_mem _ hx)
    have h2 := recOf_length (n := z.1) (h z List.mem_cons_self)
    simp only [accOf, List.flatMap_cons, List.length_append, List.length_cons] at *
    omega
/-- The numbers and texts. -/
def zsOf (ns : List Nat) (ws : List (AV × List UInt8)) : List (Nat × List UInt8) := (ns.zip ws).map fun z => (z.1, z.2.2.take 20)
theorem zsOf_get {ns : List Nat} {ws : List (AV × List UInt8)} {i : Nat} (h1 : i < ns.length) (h2 : i < ws.length) : (zsOf ns ws)[i]? = some (ns[i], ws[i].2.take 20) := by
  simp only [zsOf, List.getElem?_map]
  rw [List.getElem?_eq_getElem (by simp; omega), Option.map_some, List.getElem_zip]
theorem acc_succ {zs : List (Nat × List UInt8)} {i : Nat} {z : Nat × List UInt8} (h : zs[i]? = some z) : accOf (zs.take (i + 1)) = accOf (zs.take i) ++ recOf z.1 z.2 := by
  rw [List.take_add_one, h]
  simp [accOf, List.flatMap_append]
/-- Where an element lies. -/
def idx : AV → Nat → AV
  | .sl a _ _, i => .ptr { a with off := a.off + i }
  | _, _ => .undef
section
variable {H : List Block} {S : List (List Block)}
theorem at_idx {v : AV} {t e : TypeId} {cs : List AV} {n k : Nat} {ti1 j : TI} {kk : IntKind} (h : RH H v 1 cs n) (hi : ti Try.prog t = some ti1) (hd : ti1.desc = .slice e) (hj : ti Try.prog e = some j) (hs : j.size = 1) (ha : j.isAgg = false) (hk : k < n) :
    indexAddrA Try.prog t v (.int kk k) ⟨H, S⟩ = some (idx v k) ∧ loadA Try.prog e (idx v k) ⟨H, S⟩ = cs[k]? := by
  rcases h with ⟨_, _, rfl⟩ | ⟨ix, off, c, r, rfl, h1, h2, h3, h4⟩
  · omega
  · have hr : ∀ o, getRow ⟨H, S⟩ ⟨0, ix, o⟩ = some r := fun o => heap_row h1
    refine ⟨index_addr hi hd hj (hr off) hs h2 (by omega) (by omega), ?_⟩
    show loadA Try.prog e (.ptr ⟨0, ix, off + k⟩) ⟨H, S⟩ = _
    rw [load_one hj ha (hr _), ← h3, List.getElem?_take, if_pos (by omega), List.getElem?_drop]
theorem at68 {v : AV} {ns : List Nat} {i : Nat} (h : RH H v 1 (ns.map fun n : Nat => AV.int .u64 n) ns.length) (hi : i < ns.length) :
    indexAddrA Try.prog 68 v (.int .i64 i) ⟨H, S⟩ = some (idx v i) ∧ loadA Try.prog 23 (idx v i) ⟨H, S⟩ = some (.int .u64 (ns[i] : Nat)) := by
  obtain ⟨h1, h2⟩ := at_idx (S := S) (kk := .i64) h ti68 rfl ti23 rfl rfl hi
  exact ⟨h1, by rw [h2, List.getElem?_map, List.getElem?_eq_getElem hi]; rfl⟩
theorem at58 {v : AV} {ws : List (AV × List UInt8)} {i : Nat} (h : RH H v 1 (ws.map (·.1)) ws.length) (hi : i < ws.length) :
    indexAddrA Try.prog 58 v (.int .i64 i) ⟨H, S⟩ = some (idx v i) ∧ loadA Try.prog 22 (idx v i) ⟨H, S⟩ = some ws[i].1 := by
  obtain ⟨h1, h2⟩ := at_idx (S := S) (kk := .i64) h ti58 rfl ti22 rfl rfl hi
  exact ⟨h1, by rw [h2, List.getElem?_map, List.getElem?_eq_getElem hi]; rfl⟩
theorem littleRound {vl vs : AV} {ns : List Nat} {ws : List (AV × List UInt8)} (hl : RH H vl 1 (ns.map fun n : Nat => AV.int .u64 n) ns.length) (hs : RH H vs 1 (ws.map (·.1)) ws.length) (hn : ∀ n ∈ ns, n < 18446744073709551616) (hw : ∀ w ∈ ws, BH H w.1 w.2) : AC Try.prog 7 [vl, vs] ⟨H, S⟩ (fun v M' => v = .bool true) := by
  refine AC_of_WE Try.func7 rfl ?_
  simp only [Try.ntmps7, List.length_cons, List.length_nil, List.replicate, List.cons_append, List.nil_append, mem_enter]
  (repeat refine W_seq ?_); refine W_regionT [] ?_
  simp only [go_sem]
  (repeat refine W_seq ?_); refine W_regionT [] ?_
  simp only [go_sem]
  (repeat refine W_seq ?_); refine W_regionT [] ?_
  simp only [go_sem, len_rd (hl.rd (S := [] :: S)) ti68 rfl, len_rd (hs.rd (S := [] :: S)) ti58 rfl]
  obtain ⟨k, hk, hk1, hk2, hk3⟩ : ∃ k : Nat, (if (if (5 : Int) < (ws.length : Int) then (5 : Int) else (ws.length : Int)) < (ns.length : Int) then (if (5 : Int) < (ws.length : Int) then (5 : Int) else (ws.length : Int)) else (ns.length : Int)) = (k : Int) ∧ k ≤ ns.length ∧ k ≤ ws.length ∧ k ≤ 5 :=
    ⟨min ns.length (min ws.length 5), by split <;> split <;> omega, by omega, by omega, by omega⟩
  rw [hk]
  (repeat refine W_seq ?_); refine W_regionT [] ?_
  simp only [go_sem]
  (repeat refine W_seq ?_)
  refine W_block (W_loop (L_inv (fun j env M' => ∃ (x2 x3 x4 x8 x9 x10 x11 x12 x13 x14 x15 x16 x17 x18 x19 x20 x21 x22 x23 x24 x25 x26 x27 x28 x29 x30 x31 x32 x33 x34 x35 x36 x37 x38 x39 x40 x41 x42 x43 x44 x45 x46 x47 x48 x49 x50 x51 x52 x53 x54 x55 x56 x57 x58 x59 x60 x61 x62 x63 x64 x65 x66 x67 x68 x69 x70 x71 x72 x73 x74 x75 x76 x77 x78 x79 x80 x81 x82 x83 x84 x85 x86 x87 x88 x89 x90 x91 x92 x93 x94 x95 x96 x97 x98 x99 x100 x101 x102 x103 x104 x105 x106 x107 x108 x109 x110 x111 x112 x113 x114 x115 x116 x117 x118 x119 x120 x121 x122 x123 x124 x125 x126 x127 x128 x129 x130 x131 x132 x133 x134 : AV) (vb : AV) (i : Nat) (G' : List Block), env = [vl, vs, x2, x3, x4, vb, .int .i64 k, .int .i64 i, x8, x9, x10, x11, x12, x13, x14, x15, x16, x17, x18, x19, x20, x21, x22, x23, x24, x25, x26, x27, x28, x29, x30, x31, x32, x33, x34, x35, x36, x37, x38, x39, x40, x41, x42, x43, x44, x45, x46, x47, x48, x49, x50, x51, x52, x53, x54, x55, x56, x57, x58, x59, x60, x61, x62, x63, x64, x65, x66, x67, x68, x69, x70, x71, x72, x73, x74, x75, x76, x77, x78, x79, x80, x81, x82, x83, x84, x85, x86, x87, x88, x89, x90, x91, x92, x93, x94, x95, x96, x97, x98, x99, x100, x101, x102, x103, x104, x105, x106, x107, x108, x109, x110, x111, x112, x113, x114, x115, x116, x117, x118, x119, x120, x121, x122, x123, x124, x125, x126, x127, x128, x129, x130, x131, x132, x133, x134] ∧ i + j = k ∧ M' = ⟨G', [] :: S⟩ ∧ UpdH no H G' ∧ BH G' vb (accOf ((zsOf ns ws).take i)) ∧ (accOf ((zsOf ns ws).take i)).length ≤ 61 * i) (fun j env M2 => ?_) (k) ?_))
  case refine_2 => exact ⟨_, _, _, _, _, _, _, _, _, _, _, _, _, _, _, _, _, _, _, _, _, _, _, _, _, _, _, _, _, _, _, _, _, _, _, _, _, _, _, _, _, _, _, _, _, _, _, _, _, _, _, _, _, _, _, _, _, _, _, _, _, _, _, _, _, _, _, _, _, _, _, _, _, _, _, _, _, _, _, _, _, _, _, _, _, _, _, _, _, _, _, _, _, _, _, _, _, _, _, _, _, _, _, _, _, _, _, _, _, _, _, _, _, _, _, _, _, _, _, _, _, _, _, _, _, _, _, _, _, _, .nilsl, 0, H, rfl, by omega, rfl, UpdH.refl, BH.nil, Nat.zero_le _⟩
  refine exE fun x2 => exE fun x3 => exE fun x4 => exE fun x8 => exE fun x9 => exE fun x10 => exE fun x11 => exE fun x12 => exE fun x13 => exE fun x14 => exE fun x15 => exE fun x16 => exE fun x17 => exE fun x18 => exE fun x19 => exE fun x20 => exE fun x21 => exE fun x22 => exE fun x23 => exE fun x24 => exE fun x25 => exE fun x26 => exE fun x27 => exE fun x28 => exE fun x29 => exE fun x30 => exE fun x31 => exE fun x32 => exE fun x33 => exE fun x34 => exE fun x35 => exE fun x36 => exE fun x37 => exE fun x38 => exE fun x39 => exE fun x40 => exE fun x41 => exE fun x42 => exE fun x43 => exE fun x44 => exE fun x45 => exE fun x46 => exE fun x47 => exE fun x48 => exE fun x49 => exE fun x50 => exE fun x51 => exE fun x52 => exE fun x53 => exE fun x54 => exE fun x55 => exE fun x56 => exE fun x57 => exE fun x58 => exE fun x59 => exE fun x60 => exE fun x61 => exE fun x62 => exE fun x63 => exE fun x64 => exE fun x65 => exE fun x66 => exE fun x67 => exE fun x68 => exE fun x69 => exE fun x70 => exE fun x71 => exE fun x72 => exE fun x73 => exE fun x74 => exE fun x75 => exE fun x76 => exE fun x77 => exE fun x78 => exE fun x79 => exE fun x80 => exE fun x81 => exE fun x82 => exE fun x83 => exE fun x84 => exE fun x85 => exE fun x86 => exE fun x87 => exE fun x88 => exE fun x89 => exE fun x90 => exE fun x91 => exE fun x92 => exE fun x93 => exE fun x94 => exE fun x95 => exE fun x96 => exE fun x97 => exE fun x98 => exE fun x99 => exE fun x100 => exE fun x101 => exE fun x102 => exE fun x103 => exE fun x104 => exE fun x105 => exE fun x106 => exE fun x107 => exE fun x108 => exE fun x109 => exE fun x110 => exE fun x111 => exE fun x112 => exE fun x113 => exE fun x114 => exE fun x115 => exE fun x116 => exE fun x117 => exE fun x118 => exE fun x119 => exE fun x120 => exE fun x121 => exE fun x122 => exE fun x123 => exE fun x124 => exE fun x125 => exE fun x126 => exE fun x127 => exE fun x128 => exE fun x129 => exE fun x130 => exE fun x131 => exE fun x132 => exE fun x133 => exE fun x134 => ?_
  rintro ⟨vb, i, G, rfl, hij, rfl, uG0, b0, hlen0⟩
  (repeat refine W_seq ?_); refine W_regionT [] ?_
  simp only [go_sem]
  (repeat refine W_seq ?_)
  refine W_cond_if rfl (fun hb => ?_) (fun hb => ?_)
  · have hi : i < k := by simpa using hb
    refine W_skip ?_
    simp only [go_sem]
    (repeat refine W_seq ?_)
    refine W_block ?_
    have hil : i < ns.length := by omega
    have his : i < ws.length := by omega
    have hnn := hn _ (List.getElem_mem hil)
    have hbw := hw _ (List.getElem_mem his)
    have a68 := at68 (S := [] :: S) (hl.new uG0) hil
    (repeat refine W_seq ?_); refine W_regionT [] ?_
    simp only [go_sem, a68.1, a68.2]
    refine AT_call rfl rfl (give (u24 (n := ns[i]) (b0.rb (S := [] :: S)) (by omega) hnn)) fun v M1 hd1 h1 => ?_
    obtain ⟨G1, rfl, u1, b1, _⟩ := h1
    have uG1 := uG0.then u1 (fun _ _ h => h)
    simp only [go_sem, a68.1, a68.2]
    have a58 := at58 (S := [] :: S) (hs.new uG1) his
    (repeat refine W_seq ?_); refine W_regionT [] ?_
    simp only [go_sem, a58.1, a58.2]
    refine AT_call rfl rfl (give (few (n := 20) ((hbw.new uG1).rb (S := [] :: S)) (by omega))) fun v M1 hd1 h1 => ?_
    obtain ⟨G2, rfl, u2, b2, _⟩ := h1
    have uG2 := uG1.then u2 (fun _ _ h => h)
    generalize ht : ws[i].2.take 20 = t at b2
    have htl : t.length ≤ 20 := by rw [← ht]; simp; omega
    have b1' := b1.new u2
    simp only [go_sem, b2.text]
    refine AT_call rfl rfl (give (text (s := t) (b1'.rb (S := [] :: S)) (by simp [le_length]; omega) (by omega))) fun v M1 hd1 h1 => ?_
    obtain ⟨G3, rfl, u3, b3, _⟩ := h1
    have uG3 := uG2.then u3 (fun _ _ h => h)
    simp only [go_sem]
    have a68 := at68 (S := [] :: S) (hl.new uG3) hil
    (repeat refine W_seq ?_); refine W_regionT [] ?_
    simp only [go_sem, a68.1, a68.2, show IntKind.wrap .u16 ((ns[i] : Nat) : Int) = ((ns[i] % 65536 : Nat) : Int) by rw [wrap_u16]; rfl]
    refine AT_call rfl rfl (give (u22 (n := ns[i] % 65536) (b3.rb (S := [] :: S)) (by simp [le_length]; omega) (by omega))) fun v M1 hd1 h1 => ?_
    obtain ⟨G4, rfl, u4, b4, _⟩ := h1
    have uG4 := uG3.then u4 (fun _ _ h => h)
    simp only [go_sem]
    have a58 := at58 (S := [] :: S) (hs.new uG4) his
    (repeat refine W_seq ?_); refine W_regionT [] ?_
    simp only [go_sem, a58.1, a58.2]
    refine AT_call rfl rfl (give (few (n := 20) ((hbw.new uG4).rb (S := [] :: S)) (by omega))) fun v M1 hd1 h1 => ?_
    obtain ⟨G5, rfl, u5, b5, _⟩ := h1
    have uG5 := uG4.then u5 (fun _ _ h => h)
    rw [ht] at b5
    have b4' := b4.new u5
    simp only [go_sem]
    refine AT_call rfl rfl (give (data (s := t) (b4'.rb (S := [] :: S)) (b5.rb (S := [] :: S)) (by simp [le_length]; omega) (by omega))) fun v M1 hd1 h1 => ?_
    obtain ⟨G6, rfl, u6, b6, _⟩ := h1
    have uG6 := uG5.then u6 (fun _ _ h => h)
    simp only [go_sem]
    have a68 := at68 (S := [] :: S) (hl.new uG6) hil
    (repeat refine W_seq ?_); refine W_regionT [] ?_
    simp only [go_sem, a68.1, a68.2, show IntKind.wrap .u8 ((ns[i] : Nat) : Int) = ((ns[i] % 256 : Nat) : Int) by rw [wrap_u8]; rfl]
    refine AT_call rfl rfl (give (u21 (n := ns[i] % 256) (b6.rb (S := [] :: S)) (by simp [le_length]; omega) (by omega))) fun v M1 hd1 h1 => ?_
    obtain ⟨G7, rfl, u7, b7, _⟩ := h1
    have uG7 := uG6.then u7 (fun _ _ h => h)
    simp only [go_sem]
    have a68 := at68 (S := [] :: S) (hl.new uG7) hil
    (repeat refine W_seq ?_); refine W_regionT [] ?_
    simp only [go_sem, a68.1, a68.2, show IntKind.wrap .u32 ((ns[i] : Nat) : Int) = ((ns[i] % 4294967296 : Nat) : Int) by rw [wrap_u32]; rfl]
    refine AT_call rfl rfl (give (u23 (n := ns[i] % 4294967296) (b7.rb (S := [] :: S)) (by simp [le_length]; omega) (by omega))) fun v M1 hd1 h1 => ?_
    obtain ⟨G8, rfl, u8, b8, _⟩ := h1
    have uG8 := uG7.then u8 (fun _ _ h => h)
    have hz := zsOf_get (ns := ns) (ws := ws) hil his
    rw [ht] at hz
    have hacc := acc_succ hz
    rw [le_mod _ 1 256 rfl, le_mod _ 2 65536 rfl, le_mod _ 4 4294967296 rfl] at b8
    have hacc2 : accOf ((zsOf ns ws).take i) ++ le ns[i] 8 ++ le t.length 2 ++ t ++ le ns[i] 2 ++ le t.length 4 ++ t ++ le ns[i] 1 ++ le ns[i] 4 = accOf ((zsOf ns ws).take (i + 1)) := by
      rw [hacc]; simp [recOf, List.append_assoc]
    rw [hacc2] at b8
    have hlen8 : (accOf ((zsOf ns ws).take (i + 1))).length ≤ 61 * (i + 1) := by
      rw [hacc, List.length_append]
      have := recOf_length (n := ns[i]) htl
      simp only; omega
    simp only [go_sem]
    (repeat refine W_seq ?_); refine W_regionT [] ?_
    simp only [go_sem, show (i : Int) + 1 = ((i + 1 : Nat) : Int) from rfl, wrap_i64 (n := ((i + 1 : Nat) : Int)) (by omega) (by omega)]
    refine ⟨j - 1, by omega, _, _, _, _, _, _, _, _, _, _, _, _, _, _, _, _, _, _, _, _, _, _, _, _, _, _, _, _, _, _, _, _, _, _, _, _, _, _, _, _, _, _, _, _, _, _, _, _, _, _, _, _, _, _, _, _, _, _, _, _, _, _, _, _, _, _, _, _, _, _, _, _, _, _, _, _, _, _, _, _, _, _, _, _, _, _, _, _, _, _, _, _, _, _, _, _, _, _, _, _, _, _, _, _, _, _, _, _, _, _, _, _, _, _, _, _, _, _, _, _, _, _, _, _, _, _, _, _, _, _, _, i + 1, G8, rfl, by omega, rfl, uG8, b8, hlen8⟩
  · have hi : k = i := by simp at hb; omega
    subst hi
    (repeat refine W_seq ?_)
    refine W_exit ?_
    simp only [go_sem]
    (repeat refine W_seq ?_); refine W_regionT [] ?_
    simp only [go_sem]
    refine AT_call rfl rfl (read33 b0 (by omega)) fun v M1 hd1 h1 => ?_
    obtain ⟨ix, G2, rfl, rfl, u2, hix, r2⟩ := h1
    have uG2 := uG0.then u2 (fun _ _ h => h)
    have l0 := uG0.l
    have hq1 : ¬ (fun x => G.length ≤ x ∧ x < G2.length ∧ x ≠ ix) ix := fun h => h.2.2 rfl
    generalize hqq : (fun x => G.length ≤ x ∧ x < G2.length ∧ x ≠ ix) = q at r2 hq1
    have hqi : ∀ x, q x → x ≠ ix := fun x hx => by subst hqq; exact hx.2.2
    clear hqq
    simp only [go_sem]
    (repeat refine W_seq ?_); refine W_regionT [] ?_
    simp only [go_sem]
    (repeat refine W_seq ?_)
    refine W_cond (b := false) rfl ?_
    simp only [Bool.false_eq_true, if_false]
    refine W_skip ?_
    simp only [go_sem]
    (repeat refine W_seq ?_); refine W_regionT [] ?_
    simp only [go_sem]
    (repeat refine W_seq ?_)
    refine W_block (W_loop (L_inv (fun j2 env M' => ∃ (y2 y3 y4 y5 y7 y10 y11 y12 y13 y14 y15 y16 y17 y18 y19 y20 y21 y22 y23 y24 y25 y26 y27 y28 y29 y30 y31 y32 y33 y34 y35 y36 y37 y38 y39 y40 y41 y42 y43 y44 y45 y46 y47 y48 y49 y50 y51 y52 y53 y54 y55 y56 y57 y58 y59 y60 y61 y62 y63 y64 y65 y66 y67 y68 y69 y70 y71 y72 y73 y74 y75 y76 y77 y78 y79 y80 y81 y82 y83 y84 y85 y86 y87 y88 y89 y90 y91 y92 y93 y94 y95 y96 y97 y98 y99 y100 y101 y102 y103 y104 y105 y106 y107 y108 y109 y110 y111 y112 y113 y114 y115 y116 y117 y118 y119 y120 y121 y122 y123 y124 y125 y126 y127 y128 y129 y130 y131 y132 y133 y134 : AV) (i : Nat) (G' : List Block), env = [vl, vs, y2, y3, y4, y5, .int .i64 k, y7, .ptr ⟨0, ix, 0⟩, .int .i64 i, y10, y11, y12, y13, y14, y15, y16, y17, y18, y19, y20, y21, y22, y23, y24, y25, y26, y27, y28, y29, y30, y31, y32, y33, y34, y35, y36, y37, y38, y39, y40, y41, y42, y43, y44, y45, y46, y47, y48, y49, y50, y51, y52, y53, y54, y55, y56, y57, y58, y59, y60, y61, y62, y63, y64, y65, y66, y67, y68, y69, y70, y71, y72, y73, y74, y75, y76, y77, y78, y79, y80, y81, y82, y83, y84, y85, y86, y87, y88, y89, y90, y91, y92, y93, y94, y95, y96, y97, y98, y99, y100, y101, y102, y103, y104, y105, y106, y107, y108, y109, y110, y111, y112, y113, y114, y115, y116, y117, y118, y119, y120, y121, y122, y123, y124, y125, y126, y127, y128, y129, y130, y131, y132, y133, y134] ∧ i + j2 = k ∧ M' = ⟨G', [] :: S⟩ ∧ UpdH no H G' ∧ RdAt q G' ix (accOf (((zsOf ns ws).take k).drop i), 0)) (fun j2 env M2 => ?_) (k) ?_))
    case refine_2 => exact ⟨_, _, _, _, _, _, _, _, _, _, _, _, _, _, _, _, _, _, _, _, _, _, _, _, _, _, _, _, _, _, _, _, _, _, _, _, _, _, _, _, _, _, _, _, _, _, _, _, _, _, _, _, _, _, _, _, _, _, _, _, _, _, _, _, _, _, _, _, _, _, _, _, _, _, _, _, _, _, _, _, _, _, _, _, _, _, _, _, _, _, _, _, _, _, _, _, _, _, _, _, _, _, _, _, _, _, _, _, _, _, _, _, _, _, _, _, _, _, _, _, _, _, _, _, _, _, _, _, _, _, 0, G2, rfl, by omega, rfl, uG2, r2⟩
    clear uG0 uG2 r2 b0 hlen0
    refine exE fun y2 => exE fun y3 => exE fun y4 => exE fun y5 => exE fun y7 => exE fun y10 => exE fun y11 => exE fun y12 => exE fun y13 => exE fun y14 => exE fun y15 => exE fun y16 => exE fun y17 => exE fun y18 => exE fun y19 => exE fun y20 => exE fun y21 => exE fun y22 => exE fun y23 => exE fun y24 => exE fun y25 => exE fun y26 => exE fun y27 => exE fun y28 => exE fun y29 => exE fun y30 => exE fun y31 => exE fun y32 => exE fun y33 => exE fun y34 => exE fun y35 => exE fun y36 => exE fun y37 => exE fun y38 => exE fun y39 => exE fun y40 => exE fun y41 => exE fun y42 => exE fun y43 => exE fun y44 => exE fun y45 => exE fun y46 => exE fun y47 => exE fun y48 => exE fun y49 => exE fun y50 => exE fun y51 => exE fun y52 => exE fun y53 => exE fun y54 => exE fun y55 => exE fun y56 => exE fun y57 => exE fun y58 => exE fun y59 => exE fun y60 => exE fun y61 => exE fun y62 => exE fun y63 => exE fun y64 => exE fun y65 => exE fun y66 => exE fun y67 => exE fun y68 => exE fun y69 => exE fun y70 => exE fun y71 => exE fun y72 => exE fun y73 => exE fun y74 => exE fun y75 => exE fun y76 => exE fun y77 => exE fun y78 => exE fun y79 => exE fun y80 => exE fun y81 => exE fun y82 => exE fun y83 => exE fun y84 => exE fun y85 => exE fun y86 => exE fun y87 => exE fun y88 => exE fun y89 => exE fun y90 => exE fun y91 => exE fun y92 => exE fun y93 => exE fun y94 => exE fun y95 => exE fun y96 => exE fun y97 => exE fun y98 => exE fun y99 => exE fun y100 => exE fun y101 => exE fun y102 => exE fun y103 => exE fun y104 => exE fun y105 => exE fun y106 => exE fun y107 => exE fun y108 => exE fun y109 => exE fun y110 => exE fun y111 => exE fun y112 => exE fun y113 => exE fun y114 => exE fun y115 => exE fun y116 => exE fun y117 => exE fun y118 => exE fun y119 => exE fun y120 => exE fun y121 => exE fun y122 => exE fun y123 => exE fun y124 => exE fun y125 => exE fun y126 => exE fun y127 => exE fun y128 => exE fun y129 => exE fun y130 => exE fun y131 => exE fun y132 => exE fun y133 => exE fun y134 => ?_
    rintro ⟨i, G0, rfl, hij2, rfl, uG0, r⟩
    (repeat refine W_seq ?_); refine W_regionT [] ?_
    simp only [go_sem]
    (repeat refine W_seq ?_)
    refine W_cond_if rfl (fun hb => ?_) (fun hb => ?_)
    · have hi : i < k := by simpa using hb
      refine W_skip ?_
      simp only [go_sem]
      (repeat refine W_seq ?_)
      refine W_block ?_
      have hil : i < ns.length := by omega
      have his : i < ws.length := by omega
      have hnn := hn _ (List.getElem_mem hil)
      have hbw := hw _ (List.getElem_mem his)
      have a58 := at58 (S := [] :: S) (hs.new uG0) his
      (repeat refine W_seq ?_); refine W_regionT [] ?_
      simp only [go_sem, a58.1, a58.2]
      refine AT_call rfl rfl (give (few (n := 20) ((hbw.new uG0).rb (S := [] :: S)) (by omega))) fun v M1 hd1 h1 => ?_
      obtain ⟨G1, rfl, u1, b1, _⟩ := h1
      have uG1 := uG0.then u1 (fun _ _ h => h)
      have hz := zsOf_get (ns := ns) (ws := ws) hil his
      generalize ht : ws[i].2.take 20 = t at b1 hz
      have htl : t.length ≤ 20 := by rw [← ht]; simp; omega
      have hdrop : (accOf (((zsOf ns ws).take k).drop i)) = recOf ns[i] t ++ accOf (((zsOf ns ws).take k).drop (i + 1)) := by
        have hg : ((zsOf ns ws).take k)[i]? = some (ns[i], t) := by rw [List.getElem?_take, if_pos (by omega), hz]
        obtain ⟨hlt, hge⟩ := List.getElem?_eq_some_iff.1 hg
        rw [List.drop_eq_getElem_cons hlt, hge]; rfl
      rw [hdrop] at r
      obtain ⟨s1, s2, s3, s4, s5, e1, e2, e3, e4, e5, e6⟩ := rec_steps (r := accOf (((zsOf ns ws).take k).drop (i + 1))) hnn htl
      have r1 := r.upd u1 (fun h => h) (fun k hk h => h)
      have a0 := at68 (S := [] :: S) (hl.new uG1) hil
      simp only [go_sem, b1.text]
      (repeat refine W_seq ?_); refine W_regionD [] [1, 9, 15, 25, 32, 42] [0, 2, 3, 4, 5, 1, 6, 7, 8, 10, 9, 11, 12, 13, 14, 16, 17, 18, 19, 20, 15, 21, 22, 23, 24, 27, 25, 26, 28, 29, 30, 31, 33, 34, 35, 36, 37, 32, 38, 39, 40, 41, 43, 44, 45, 46, 47, 42, 48, 49] [0, 1, 0, 0, 12, 28, 63, 127, 255, 511, 255, 2047, 4095, 8191, 16383, 32767, 16383, 16383, 212991, 475135, 999423, 2097151, 4194303, 8388607, 16777215, 33554431, 67108863, 16777215, 268435455, 536870911, 1073741823, 2147483647, 4294967295, 2147483647, 2147483647, 27917287423, 62277025791, 130996502527, 274877906943, 549755813887, 1099511627775, 2199023255551, 4398046511103, 2199023255551, 2199023255551, 28587302322175, 63771674411007, 134140418588671, 281474976710655, 562949953421311] mixedM (by kernel_rfl) (by kernel_rfl) (by kernel_rfl) ?_
      simp only [listed, go_sem]
      refine AD_read (v := idx vl i) (fun M' => indexAddrA Try.prog 68 vl (.int .i64 i) M' = some (idx vl i) ∧ loadA Try.prog 23 (idx vl i) M' = some (.int .u64 (ns[i] : Nat))) rfl rfl (fun M' h => by show pureV (indexAddrA Try.prog 68 vl (.int .i64 i) M') M' = _; rw [h.1]; rfl) (a0) ?_
      simp only [go_sem, decide_true, decide_false, beq_self_eq_true, show IntKind.wrap .u16 ((ns[i] : Nat) : Int) = ((ns[i] % 65536 : Nat) : Int) by rw [wrap_u16]; rfl, show IntKind.wrap .u8 ((ns[i] : Nat) : Int) = ((ns[i] % 256 : Nat) : Int) by rw [wrap_u8]; rfl, show IntKind.wrap .u32 ((ns[i] : Nat) : Int) = ((ns[i] % 4294967296 : Nat) : Int) by rw [wrap_u32]; rfl]
      refine AD_read (v := .int .u64 (ns[i] : Nat)) (fun M' => indexAddrA Try.prog 68 vl (.int .i64 i) M' = some (idx vl i) ∧ loadA Try.prog 23 (idx vl i) M' = some (.int .u64 (ns[i] : Nat))) rfl rfl (fun M' h => by show pureV (loadA Try.prog 23 (idx vl i) M') M' = _; rw [h.2]; rfl) (a0) ?_
      simp only [go_sem, decide_true, decide_false, beq_self_eq_true, show IntKind.wrap .u16 ((ns[i] : Nat) : Int) = ((ns[i] % 65536 : Nat) : Int) by rw [wrap_u16]; rfl, show IntKind.wrap .u8 ((ns[i] : Nat) : Int) = ((ns[i] % 256 : Nat) : Int) by rw [wrap_u8]; rfl, show IntKind.wrap .u32 ((ns[i] : Nat) : Int) = ((ns[i] % 4294967296 : Nat) : Int) by rw [wrap_u32]; rfl]
      refine AD_call rfl rfl rfl (num39 r1 hq1) fun v M1 hd1 h1 => ?_
      have w0 := uG1
      obtain ⟨hv, H1, rfl, v1, r2⟩ := h1; subst hv
      have w1 := w0.then v1 (fun x hx h => by omega)
      rw [e1] at r2
      dsimp only at r2
      have a1 := at68 (S := [] :: S) (hl.new w1) hil
      rw [e1]
      refine ⟨⟨fun _ => a1, fun _ => a1, trivial⟩, ?_⟩
      simp only [go_sem, decide_true]
      refine AD_call rfl rfl rfl (readText r2 hq1) fun v M1 hd1 h1 => ?_
      obtain ⟨hv, H2, rfl, v2, r3⟩ := h1; subst hv
      have w2 := w1.then v2 (fun x hx h => by omega)
      rw [e2] at r3
      dsimp only at r3
      have a2 := at68 (S := [] :: S) (hl.new w2) hil
      rw [e2]
      refine ⟨⟨fun _ => a2, fun _ => a2, trivial⟩, ?_⟩
      simp only [go_sem, beq_self_eq_true]
      refine AD_read (v := idx vl i) (fun M' => indexAddrA Try.prog 68 vl (.int .i64 i) M' = some (idx vl i) ∧ loadA Try.prog 23 (idx vl i) M' = some (.int .u64 (ns[i] : Nat))) rfl rfl (fun M' h => by show pureV (indexAddrA Try.prog 68 vl (.int .i64 i) M') M' = _; rw [h.1]; rfl) (a2) ?_
      simp only [go_sem, decide_true, decide_false, beq_self_eq_true, show IntKind.wrap .u16 ((ns[i] : Nat) : Int) = ((ns[i] % 65536 : Nat) : Int) by rw [wrap_u16]; rfl, show IntKind.wrap .u8 ((ns[i] : Nat) : Int) = ((ns[i] % 256 : Nat) : Int) by rw [wrap_u8]; rfl, show IntKind.wrap .u32 ((ns[i] : Nat) : Int) = ((ns[i] % 4294967296 : Nat) : Int) by rw [wrap_u32]; rfl]
      refine AD_read (v := .int .u64 (ns[i] : Nat)) (fun M' => indexAddrA Try.prog 68 vl (.int .i64 i) M' = some (idx vl i) ∧ loadA Try.prog 23 (idx vl i) M' = some (.int .u64 (ns[i] : Nat))) rfl rfl (fun M' h => by show pureV (loadA Try.prog 23 (idx vl i) M') M' = _; rw [h.2]; rfl) (a2) ?_
      simp only [go_sem, decide_true, decide_false, beq_self_eq_true, show IntKind.wrap .u16 ((ns[i] : Nat) : Int) = ((ns[i] % 65536 : Nat) : Int) by rw [wrap_u16]; rfl, show IntKind.wrap .u8 ((ns[i] : Nat) : Int) = ((ns[i] % 256 : Nat) : Int) by rw [wrap_u8]; rfl, show IntKind.wrap .u32 ((ns[i] : Nat) : Int) = ((ns[i] % 4294967296 : Nat) : Int) by rw [wrap_u32]; rfl]
      refine AD_convI rfl rfl ti23 ti24 rfl ?_
      simp only [go_sem, decide_true, decide_false, beq_self_eq_true, show IntKind.wrap .u16 ((ns[i] : Nat) : Int) = ((ns[i] % 65536 : Nat) : Int) by rw [wrap_u16]; rfl, show IntKind.wrap .u8 ((ns[i] : Nat) : Int) = ((ns[i] % 256 : Nat) : Int) by rw [wrap_u8]; rfl, show IntKind.wrap .u32 ((ns[i] : Nat) : Int) = ((ns[i] % 4294967296 : Nat) : Int) by rw [wrap_u32]; rfl]
      refine AD_call rfl rfl rfl (num37 r3 hq1) fun v M1 hd1 h1 => ?_
      obtain ⟨hv, H3, rfl, v3, r4⟩ := h1; subst hv
      have w3 := w2.then v3 (fun x hx h => by omega)
      rw [e3] at r4
      dsimp only at r4
      have a3 := at68 (S := [] :: S) (hl.new w3) hil
      rw [e3]
      refine ⟨⟨fun _ => a3, fun _ => a3, fun _ => a3, fun _ => a3, trivial⟩, ?_⟩
      simp only [go_sem, decide_true]
      refine AD_call rfl rfl rfl (readData (most := 20) r4 hq1) fun v M1 hd1 h1 => ?_
      obtain ⟨H4, rfl, v4, r5, tb, tq⟩ := h1
      have w4 := w3.then v4 (fun x hx h => by omega)
      rw [e4] at r5 tb
      dsimp only at r5 tb
      have a4 := at68 (S := [] :: S) (hl.new w4) hil
      rename AV => tv
      refine ⟨⟨fun _ => a4, fun _ => a4, fun _ => a4, fun _ => a4, trivial⟩, ?_⟩
      simp only [go_sem, beq_self_eq_true]
      refine AD_read (v := .str t) (fun M' => RB M' tv t) rfl rfl (fun M' h => h.text bt22 st9) (tb.rb) ?_
      simp only [go_sem, decide_true, decide_false, beq_self_eq_true, show IntKind.wrap .u16 ((ns[i] : Nat) : Int) = ((ns[i] % 65536 : Nat) : Int) by rw [wrap_u16]; rfl, show IntKind.wrap .u8 ((ns[i] : Nat) : Int) = ((ns[i] % 256 : Nat) : Int) by rw [wrap_u8]; rfl, show IntKind.wrap .u32 ((ns[i] : Nat) : Int) = ((ns[i] % 4294967296 : Nat) : Int) by rw [wrap_u32]; rfl]
      refine AD_read (v := idx vl i) (fun M' => indexAddrA Try.prog 68 vl (.int .i64 i) M' = some (idx vl i) ∧ loadA Try.prog 23 (idx vl i) M' = some (.int .u64 (ns[i] : Nat))) rfl rfl (fun M' h => by show pureV (indexAddrA Try.prog 68 vl (.int .i64 i) M') M' = _; rw [h.1]; rfl) (a4) ?_
      simp only [go_sem, decide_true, decide_false, beq_self_eq_true, show IntKind.wrap .u16 ((ns[i] : Nat) : Int) = ((ns[i] % 65536 : Nat) : Int) by rw [wrap_u16]; rfl, show IntKind.wrap .u8 ((ns[i] : Nat) : Int) = ((ns[i] % 256 : Nat) : Int) by rw [wrap_u8]; rfl, show IntKind.wrap .u32 ((ns[i] : Nat) : Int) = ((ns[i] % 4294967296 : Nat) : Int) by rw [wrap_u32]; rfl]
      refine AD_read (v := .int .u64 (ns[i] : Nat)) (fun M' => indexAddrA Try.prog 68 vl (.int .i64 i) M' = some (idx vl i) ∧ loadA Try.prog 23 (idx vl i) M' = some (.int .u64 (ns[i] : Nat))) rfl rfl (fun M' h => by show pureV (loadA Try.prog 23 (idx vl i) M') M' = _; rw [h.2]; rfl) (a4) ?_
      simp only [go_sem, decide_true, decide_false, beq_self_eq_true, show IntKind.wrap .u16 ((ns[i] : Nat) : Int) = ((ns[i] % 65536 : Nat) : Int) by rw [wrap_u16]; rfl, show IntKind.wrap .u8 ((ns[i] : Nat) : Int) = ((ns[i] % 256 : Nat) : Int) by rw [wrap_u8]; rfl, show IntKind.wrap .u32 ((ns[i] : Nat) : Int) = ((ns[i] % 4294967296 : Nat) : Int) by rw [wrap_u32]; rfl]
      refine AD_convI rfl rfl ti23 ti5 rfl ?_
      simp only [go_sem, decide_true, decide_false, beq_self_eq_true, show IntKind.wrap .u16 ((ns[i] : Nat) : Int) = ((ns[i] % 65536 : Nat) : Int) by rw [wrap_u16]; rfl, show IntKind.wrap .u8 ((ns[i] : Nat) : Int) = ((ns[i] % 256 : Nat) : Int) by rw [wrap_u8]; rfl, show IntKind.wrap .u32 ((ns[i] : Nat) : Int) = ((ns[i] % 4294967296 : Nat) : Int) by rw [wrap_u32]; rfl]
      refine AD_call rfl rfl rfl (num35 r5 hq1) fun v M1 hd1 h1 => ?_
      obtain ⟨hv, H5, rfl, v5, r6⟩ := h1; subst hv
      have w5 := w4.then v5 (fun x hx h => by omega)
      rw [e5] at r6
      dsimp only at r6
      have a5 := at68 (S := [] :: S) (hl.new w5) hil
      rw [e5]
      have tb5 := tb.upd v5 (fun k hk h => hqi k (tq k hk) h)
      refine ⟨⟨fun _ => a5, fun _ => a5, fun _ => tb5.rb, fun _ => a5, fun _ => a5, fun _ => a5, fun _ => a5, trivial⟩, ?_⟩
      simp only [go_sem, decide_true]
      refine AD_read (v := idx vl i) (fun M' => indexAddrA Try.prog 68 vl (.int .i64 i) M' = some (idx vl i) ∧ loadA Try.prog 23 (idx vl i) M' = some (.int .u64 (ns[i] : Nat))) rfl rfl (fun M' h => by show pureV (indexAddrA Try.prog 68 vl (.int .i64 i) M') M' = _; rw [h.1]; rfl) (a5) ?_
      simp only [go_sem, decide_true, decide_false, beq_self_eq_true, show IntKind.wrap .u16 ((ns[i] : Nat) : Int) = ((ns[i] % 65536 : Nat) : Int) by rw [wrap_u16]; rfl, show IntKind.wrap .u8 ((ns[i] : Nat) : Int) = ((ns[i] % 256 : Nat) : Int) by rw [wrap_u8]; rfl, show IntKind.wrap .u32 ((ns[i] : Nat) : Int) = ((ns[i] % 4294967296 : Nat) : Int) by rw [wrap_u32]; rfl]
      refine AD_read (v := .int .u64 (ns[i] : Nat)) (fun M' => indexAddrA Try.prog 68 vl (.int .i64 i) M' = some (idx vl i) ∧ loadA Try.prog 23 (idx vl i) M' = some (.int .u64 (ns[i] : Nat))) rfl rfl (fun M' h => by show pureV (loadA Try.prog 23 (idx vl i) M') M' = _; rw [h.2]; rfl) (a5) ?_
      simp only [go_sem, decide_true, decide_false, beq_self_eq_true, show IntKind.wrap .u16 ((ns[i] : Nat) : Int) = ((ns[i] % 65536 : Nat) : Int) by rw [wrap_u16]; rfl, show IntKind.wrap .u8 ((ns[i] : Nat) : Int) = ((ns[i] % 256 : Nat) : Int) by rw [wrap_u8]; rfl, show IntKind.wrap .u32 ((ns[i] : Nat) : Int) = ((ns[i] % 4294967296 : Nat) : Int) by rw [wrap_u32]; rfl]
      refine AD_convI rfl rfl ti23 ti29 rfl ?_
      simp only [go_sem, decide_true, decide_false, beq_self_eq_true, show IntKind.wrap .u16 ((ns[i] : Nat) : Int) = ((ns[i] % 65536 : Nat) : Int) by rw [wrap_u16]; rfl, show IntKind.wrap .u8 ((ns[i] : Nat) : Int) = ((ns[i] % 256 : Nat) : Int) by rw [wrap_u8]; rfl, show IntKind.wrap .u32 ((ns[i] : Nat) : Int) = ((ns[i] % 4294967296 : Nat) : Int) by rw [wrap_u32]; rfl]
      refine AD_call rfl rfl rfl (num38 r6 hq1) fun v M1 hd1 h1 => ?_
      obtain ⟨hv, H6, rfl, v6, r7⟩ := h1; subst hv
      have w6 := w5.then v6 (fun x hx h => by omega)
      rw [e6] at r7
      dsimp only at r7
      have a6 := at68 (S := [] :: S) (hl.new w6) hil
      rw [e6]
      have tb6 := tb5.upd v6 (fun k hk h => hqi k (tq k hk) h)
      refine ⟨⟨fun _ => a6, fun _ => a6, fun _ => a6, fun _ => a6, fun _ => tb6.rb, fun _ => a6, fun _ => a6, fun _ => a6, fun _ => a6, trivial⟩, ?_⟩
      simp only [go_sem, decide_true]
      (repeat refine W_seq ?_)
      refine W_cond (b := false) rfl ?_
      simp only [Bool.false_eq_true, if_false]
      refine W_skip ?_
      simp only [go_sem]
      (repeat refine W_seq ?_); refine W_regionT [] ?_
      simp only [go_sem, show (i : Int) + 1 = ((i + 1 : Nat) : Int) from rfl, wrap_i64 (n := ((i + 1 : Nat) : Int)) (by omega) (by omega)]
      refine ⟨j2 - 1, by omega, _, _, _, _, _, _, _, _, _, _, _, _, _, _, _, _, _, _, _, _, _, _, _, _, _, _, _, _, _, _, _, _, _, _, _, _, _, _, _, _, _, _, _, _, _, _, _, _, _, _, _, _, _, _, _, _, _, _, _, _, _, _, _, _, _, _, _, _, _, _, _, _, _, _, _, _, _, _, _, _, _, _, _, _, _, _, _, _, _, _, _, _, _, _, _, _, _, _, _, _, _, _, _, _, _, _, _, _, _, _, _, _, _, _, _, _, _, _, _, _, _, _, _, _, _, _, _, _, _, _, i + 1, H6, rfl, by omega, rfl, w6, r7⟩
    · have hi : k = i := by simp at hb; omega
      subst hi
      (repeat refine W_seq ?_)
      refine W_exit ?_
      simp only [go_sem]
      (repeat refine W_seq ?_); refine W_regionT [] ?_
      simp only [go_sem]
      refine AT_call rfl rfl (end45 r) fun v M1 hd1 h1 => ?_
      obtain ⟨hv, hM⟩ := h1; subst hv; subst hM
      have hend : rEnd (accOf (((zsOf ns ws).take k).drop k), 0) = 0 := by rw [List.drop_of_length_le (by simp; omega)]; rfl
      rw [hend]
      simp only [go_sem]
      refine AT_call rfl rfl (lives02) fun v M1 hd1 h1 => ?_
      obtain ⟨hv, hM⟩ := h1; subst hv; subst hM
      simp only [go_sem]
      exact W_ret ⟨.inr rfl, _, rfl, rfl, rfl⟩
end
end Go.Proofs.Ytlpcbfndjffpfaa
