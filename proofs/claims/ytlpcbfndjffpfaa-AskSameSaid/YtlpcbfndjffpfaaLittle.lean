/- The walk of LittleReads. -/
import Derived.Test.YtlpcbfndjffpfaaReads2
set_option maxRecDepth 100000
set_option maxHeartbeats 4000000
set_option linter.unusedSimpArgs false
set_option linter.unusedVariables false
namespace Go.Proofs.Ytlpcbfndjffpfaa
open Go.Abs
def around (n k : Int) : Int := Int.tmod (if n < 0 then -(n + 1) else n) k
theorem around_range {n k : Int} (hk : 0 < k) : 0 ≤ around n k ∧ around n k < k := by
  unfold around
  have h0 : 0 ≤ (if n < 0 then -(n + 1) else n) := by split <;> omega
  exact ⟨Int.tmod_nonneg _ h0, Int.tmod_lt_of_pos _ hk⟩
section
variable {H : List Block} {S : List (List Block)}
theorem lives02 {M : Mem} : AC Try.prog 32 [] M (fun v M' => v = .bool true ∧ M' = M) :=
  (AC_closed rfl (lives (M := M0)) (fun v M' h => by rw [h.1]; rfl)).mono fun v M' h => ⟨h.1.choose_spec.1, h.2⟩
theorem aroundF {n k : Int} (h0 : -9223372036854775808 ≤ n) (h1 : n < 9223372036854775808) (hk : 0 < k) : AC Try.prog 34 [.int .i64 n, .int .i64 k] ⟨H, S⟩ (fun v M' => v = .int .i64 (around n k) ∧ M' = ⟨H, S⟩) := by
  refine AC_of_WE Try.func34 rfl ?_
  simp only [Try.ntmps34, List.length_cons, List.length_nil, List.replicate, List.cons_append, List.nil_append, mem_enter]
  have hk0 : k ≠ 0 := by omega
  (repeat refine W_seq ?_); refine W_regionT [] ?_
  simp only [go_sem]
  by_cases hn : n < 0
  · have hx := hn
    (repeat refine W_seq ?_); refine W_regionT [] ?_
    simp only [go_sem, hx]
    (repeat refine W_seq ?_)
    refine W_cond (b := true) rfl ?_
    simp only [if_true]
    (repeat refine W_seq ?_); refine W_regionT [] ?_
    simp only [go_sem, wrap_i64 (n := n + 1) (by omega) (by omega), wrap_i64 (n := 0 - (n + 1)) (by omega) (by omega)]
    (repeat refine W_seq ?_); refine W_regionT [] ?_
    simp only [go_sem, bin_rem hk0]
    refine W_ret ⟨.inr rfl, _, rfl, rfl, ?_, rfl⟩
    unfold around
    rw [if_pos hn, show -(n + 1) = 0 - (n + 1) by omega]; rfl
  · have hx := hn
    (repeat refine W_seq ?_); refine W_regionT [] ?_
    simp only [go_sem, hx]
    (repeat refine W_seq ?_)
    refine W_cond (b := false) rfl ?_
    simp only [Bool.false_eq_true, if_false]
    refine W_skip ?_
    simp only [go_sem]
    (repeat refine W_seq ?_); refine W_regionT [] ?_
    simp only [go_sem, bin_rem hk0]
    refine W_ret ⟨.inr rfl, _, rfl, rfl, ?_, rfl⟩
    unfold around
    rw [if_neg hn]; rfl
theorem at_pair {v : AV} {css : List (List AV)} {m j : Nat} {kk : IntKind} {x : List AV} (h : RH H v 2 css.flatten css.length) (h0 : v.off0 = true) (hl : ∀ x ∈ css, x.length = 2) (hm : css[m]? = some x) (hj : j < 2) :
    ∃ a b, indexAddrA Try.prog 40 v (.int kk m) ⟨H, S⟩ = some a ∧ indexAddrA Try.prog 47 a (.int .i64 j) ⟨H, S⟩ = some b ∧ loadA Try.prog 3 b ⟨H, S⟩ = x[j]? := by
  have hml := (List.getElem?_eq_some_iff.1 hm).1
  rcases h with ⟨_, _, h3⟩ | ⟨ix, off, c, r, rfl, h1, h2, h3, h4⟩
  · omega
  · have hr : ∀ o, getRow ⟨H, S⟩ ⟨0, ix, o⟩ = some r := fun o => heap_row h1
    have hev : off = 0 := by simpa [AV.off0] using h0
    subst hev
    have e1 : indexAddrA Try.prog 40 (.sl ⟨0, ix, 0⟩ css.length c) (.int kk m) ⟨H, S⟩ = some (.ptr ⟨0, ix, 0 + m * 2⟩) := by
      unfold indexAddrA
      simp only [ti40, ti47, hr]
      rw [if_pos ⟨by omega, by omega, by decide, h2⟩]; simp
    have e2 : indexAddrA Try.prog 47 (.ptr ⟨0, ix, 0 + m * 2⟩) (.int .i64 j) ⟨H, S⟩ = some (.ptr ⟨0, ix, 0 + m * 2 + j⟩) := by
      unfold indexAddrA
      simp only [ti47, ti3, hr]
      rw [if_pos ⟨by omega, by omega, by rw [h2]; show (0 + m * 2) % 2 + ((j : Nat) : Int).toNat * 1 < 2; omega⟩]; simp
    refine ⟨_, _, e1, e2, ?_⟩
    rw [load_one ti3 rfl (hr _)]
    have := flatten_get hl hm hj
    rw [← h3, List.getElem?_take, if_pos (by omega), List.getElem?_drop] at this
    rw [← this]
    congr 1
    show 0 + m * 2 + j = 0 + (m * 2 + j)
    omega
theorem littleReads {vb vc : AV} {b : List UInt8} {css : List (List AV)} (hb : BH H vb b) (hc : RH H vc 2 css.flatten css.length) (hc0 : vc.off0 = true) (hcl : css.length < 9223372036854775808) (hce : ∀ x ∈ css, ∃ p q, x = [.int .i64 p, .int .i64 q] ∧ (-9223372036854775808 ≤ p ∧ p < 9223372036854775808) ∧ (-9223372036854775808 ≤ q ∧ q < 9223372036854775808)) : AC Try.prog 4 [vb, vc] ⟨H, S⟩ (fun v M' => v = .bool true) := by
  refine AC_of_WE Try.func4 rfl ?_
  simp only [Try.ntmps4, List.length_cons, List.length_nil, List.replicate, List.cons_append, List.nil_append, mem_enter]
  have hc2 : ∀ x ∈ css, x.length = 2 := fun x hx => by obtain ⟨p, q, rfl, _⟩ := hce x hx; rfl
  (repeat refine W_seq ?_); refine W_regionT [] ?_
  simp only [go_sem]
  (repeat refine W_seq ?_); refine W_regionT [] ?_
  simp only [go_sem]
  refine AT_call rfl rfl (give (few (n := 60) (hb.rb (S := [] :: S)) (by omega))) fun v M1 hd1 h1 => ?_
  obtain ⟨H1, rfl, u1, b1, c1⟩ := h1
  generalize hown : b.take 60 = own at b1
  have lown : own.length ≤ 60 := by rw [← hown]; simp; omega
  simp only [go_sem]
  (repeat refine W_seq ?_); refine W_regionT [] ?_
  simp only [go_sem]
  refine AT_call rfl rfl (read33 b1 (by omega)) fun v M1 hd1 h1 => ?_
  obtain ⟨ix, H2, rfl, rfl, u2, hix, r2⟩ := h1
  have hix2 := r2.lt
  simp only [go_sem]
  (repeat refine W_seq ?_); refine W_regionT [] ?_
  simp only [go_sem]
  (repeat refine W_seq ?_)
  refine W_cond (b := false) rfl ?_
  simp only [Bool.false_eq_true, if_false]
  refine W_skip ?_
  simp only [go_sem]
  have e1 : buildA Try.prog 46 [(0, v)] = some (.agg [v, .int .i64 0, .int .i64 0]) := by
    unfold buildA; simp only [ti46]
    rcases b1 with ⟨rfl, _⟩ | ⟨i0, o0, c0, r0, rfl, _⟩ <;> rfl
  have e2 := box_agg (P := Try.prog) (hp := true) (vs := [v, .int .i64 0, .int .i64 0]) (M := ⟨H2, [] :: S⟩) ti46 (by simp [b1.one.1]; rfl) rfl (by decide)
  (repeat refine W_seq ?_); refine W_regionT [18] ?_
  simp only [go_sem, e1, e2]
  have uG0 : UpdH no H (H2 ++ [Block.row ⟨46, 3, [v, .int .i64 0, .int .i64 0], false, false⟩]) := (u1.then u2 (fun _ _ h => h)).then (UpdH.push (p := no)) (fun _ _ h => h)
  have r0 : RdAt (fun k => H1.length ≤ k ∧ k < H2.length ∧ k ≠ ix) (H2 ++ [Block.row ⟨46, 3, [v, .int .i64 0, .int .i64 0], false, false⟩]) ix (own, 0) := by
    obtain ⟨vr, g1, g2, g3⟩ := r2.upd (UpdH.push (p := no)) (fun h => h) (fun k hk h => h)
    exact ⟨vr, g1, g2, g3⟩
  have f0 : RfAt v.loc (H2 ++ [Block.row ⟨46, 3, [v, .int .i64 0, .int .i64 0], false, false⟩]) H2.length (own, 0) := ⟨v, own, 0, by simp, (b1.new u2).new UpdH.push, Nat.zero_le _, rfl, by omega, fun k hk => hk⟩
  have hv1 : ∀ k, v.loc k → H.length ≤ k ∧ k < H1.length := fun k hk => ⟨c1 k hk, RH.lt b1 hk⟩
  generalize H2 ++ [Block.row ⟨46, 3, [v, .int .i64 0, .int .i64 0], false, false⟩] = G0 at uG0 r0 f0
  generalize v.loc = vq at f0 hv1
  have hne : ix ≠ H2.length := by omega
  have hq2 : ∀ k, vq k → k < H1.length := fun k hk => (hv1 k hk).2
  have l1 := u1.l
  have l2 := u2.l
  (repeat refine W_seq ?_); refine W_regionT [] ?_
  simp only [go_sem]
  have hq1 : ¬ (fun k => H1.length ≤ k ∧ k < H2.length ∧ k ≠ ix) ix := fun h => h.2.2 rfl
  have hqf : ¬ vq H2.length := fun h => by have := hq2 _ h; omega
  have hqe : ∀ k, (fun k => H1.length ≤ k ∧ k < H2.length ∧ k ≠ ix) k → k < H2.length ∧ k ≠ ix := fun k h => ⟨h.2.1, h.2.2⟩
  have hqv : ∀ k, vq k → k ≠ ix := fun k h => by have := hq2 _ h; omega
  generalize hvo : v = vo
  (repeat refine W_seq ?_)
  refine W_block (W_loop (L_inv (fun j env M' => ∃ (x0 x2 x3 x4 x9 x10 x11 x12 x13 x14 x15 x16 x17 x18 x19 x20 x21 x22 x23 x24 x25 x26 x27 x28 x29 x30 x31 x32 x33 x34 x35 x36 x37 x38 x39 x40 x41 x42 x43 x44 x45 x46 x47 x48 x49 x50 x51 x52 x53 x54 x55 x56 x57 x58 x59 x60 x61 x62 x63 x64 x65 x66 x67 x68 x69 x70 x71 x72 x73 x74 x75 x76 x77 x78 x79 x80 x81 x82 x83 x84 x85 x86 x87 x88 x89 x90 x91 x92 x93 x94 x95 x96 x97 x98 x99 x100 x101 x102 x103 x104 x105 x106 x107 x108 x109 x110 x111 x112 x113 x114 : AV) (i : Nat) (G' : List Block) (s : RS), env = [x0, vc, x2, x3, x4, vo, .ptr ⟨0, ix, 0⟩, .ptr ⟨0, H2.length, 0⟩, .int .i64 i, x9, x10, x11, x12, x13, x14, x15, x16, x17, x18, x19, x20, x21, x22, x23, x24, x25, x26, x27, x28, x29, x30, x31, x32, x33, x34, x35, x36, x37, x38, x39, x40, x41, x42, x43, x44, x45, x46, x47, x48, x49, x50, x51, x52, x53, x54, x55, x56, x57, x58, x59, x60, x61, x62, x63, x64, x65, x66, x67, x68, x69, x70, x71, x72, x73, x74, x75, x76, x77, x78, x79, x80, x81, x82, x83, x84, x85, x86, x87, x88, x89, x90, x91, x92, x93, x94, x95, x96, x97, x98, x99, x100, x101, x102, x103, x104, x105, x106, x107, x108, x109, x110, x111, x112, x113, x114] ∧ i + j = css.length ∧ M' = ⟨G', [] :: S⟩ ∧ UpdH no H G' ∧ RdAt (fun k => H1.length ≤ k ∧ k < H2.length ∧ k ≠ ix) G' ix s ∧ RfAt vq G' H2.length s) (fun j env M2 => ?_) (css.length) ?_))
  case refine_2 => exact ⟨_, _, _, _, _, _, _, _, _, _, _, _, _, _, _, _, _, _, _, _, _, _, _, _, _, _, _, _, _, _, _, _, _, _, _, _, _, _, _, _, _, _, _, _, _, _, _, _, _, _, _, _, _, _, _, _, _, _, _, _, _, _, _, _, _, _, _, _, _, _, _, _, _, _, _, _, _, _, _, _, _, _, _, _, _, _, _, _, _, _, _, _, _, _, _, _, _, _, _, _, _, _, _, _, _, _, _, _, _, _, 0, G0, (own, 0), rfl, by omega, rfl, uG0, r0, f0⟩
  clear uG0 r0 f0
  refine exE fun x0 => exE fun x2 => exE fun x3 => exE fun x4 => exE fun x9 => exE fun x10 => exE fun x11 => exE fun x12 => exE fun x13 => exE fun x14 => exE fun x15 => exE fun x16 => exE fun x17 => exE fun x18 => exE fun x19 => exE fun x20 => exE fun x21 => exE fun x22 => exE fun x23 => exE fun x24 => exE fun x25 => exE fun x26 => exE fun x27 => exE fun x28 => exE fun x29 => exE fun x30 => exE fun x31 => exE fun x32 => exE fun x33 => exE fun x34 => exE fun x35 => exE fun x36 => exE fun x37 => exE fun x38 => exE fun x39 => exE fun x40 => exE fun x41 => exE fun x42 => exE fun x43 => exE fun x44 => exE fun x45 => exE fun x46 => exE fun x47 => exE fun x48 => exE fun x49 => exE fun x50 => exE fun x51 => exE fun x52 => exE fun x53 => exE fun x54 => exE fun x55 => exE fun x56 => exE fun x57 => exE fun x58 => exE fun x59 => exE fun x60 => exE fun x61 => exE fun x62 => exE fun x63 => exE fun x64 => exE fun x65 => exE fun x66 => exE fun x67 => exE fun x68 => exE fun x69 => exE fun x70 => exE fun x71 => exE fun x72 => exE fun x73 => exE fun x74 => exE fun x75 => exE fun x76 => exE fun x77 => exE fun x78 => exE fun x79 => exE fun x80 => exE fun x81 => exE fun x82 => exE fun x83 => exE fun x84 => exE fun x85 => exE fun x86 => exE fun x87 => exE fun x88 => exE fun x89 => exE fun x90 => exE fun x91 => exE fun x92 => exE fun x93 => exE fun x94 => exE fun x95 => exE fun x96 => exE fun x97 => exE fun x98 => exE fun x99 => exE fun x100 => exE fun x101 => exE fun x102 => exE fun x103 => exE fun x104 => exE fun x105 => exE fun x106 => exE fun x107 => exE fun x108 => exE fun x109 => exE fun x110 => exE fun x111 => exE fun x112 => exE fun x113 => exE fun x114 => ?_
  rintro ⟨i, G, s, rfl, hij, rfl, uG, r, f⟩
  by_cases hN : i < css.length
  · have hN' : (i : Int) < (css.length : Int) := by omega
    have hlen := len_rd ((hc.new uG).rd (S := [] :: S)) ti40 rfl
    (repeat refine W_seq ?_); refine W_regionT [] ?_
    simp only [go_sem, hlen, hN', decide_true, decide_false]
    (repeat refine W_seq ?_)
    refine W_cond_if rfl (fun hb => ?_) (fun hb => ?_)
    · have hi10 : i < 10 := by simp [hN] at hb; omega
      refine W_skip ?_
      simp only [go_sem]
      (repeat refine W_seq ?_)
      refine W_block ?_
      have hx := List.getElem?_eq_getElem hN
      obtain ⟨p, q, hpq, hp, hq⟩ := hce _ (List.getElem_mem hN)
      obtain ⟨g1, g2, g3, g4, g5⟩ := at_pair (S := [] :: S) (kk := .i64) (j := 1) (hc.new uG) hc0 hc2 hx (by decide)
      obtain ⟨g6, g7, g8, g9, g10⟩ := at_pair (S := [] :: S) (kk := .i64) (j := 0) (hc.new uG) hc0 hc2 hx (by decide)
      rw [hpq] at g5 g10
      simp only [List.getElem?_cons_zero, List.getElem?_cons_succ] at g5 g10
      have g4' : indexAddrA Try.prog 47 g1 (.int .i64 1) ⟨G, [] :: S⟩ = some g2 := g4
      have g9' : indexAddrA Try.prog 47 g6 (.int .i64 0) ⟨G, [] :: S⟩ = some g7 := g9
      (repeat refine W_seq ?_); refine W_regionT [] ?_
      simp only [go_sem, g3, g4', g5]
      (repeat refine W_seq ?_); refine W_regionT [] ?_
      simp only [go_sem, g8, g9', g10]
      refine AT_call rfl rfl (aroundF hp.1 hp.2 (by decide)) fun v M1 hd1 h1 => ?_
      obtain ⟨hv, hM⟩ := h1
      have hr := around_range (n := p) (k := 7) (by decide)
      generalize around p 7 = r at hv hr
      subst hv; subst hM
      simp only [go_sem, g8, g9', g10]
      (repeat refine W_seq ?_)
      refine W_block ?_
      rcases (show r = 0 ∨ r = 1 ∨ r = 2 ∨ r = 3 ∨ r = 4 ∨ r = 5 ∨ r = 6 by omega) with rfl | rfl | rfl | rfl | rfl | rfl | rfl
      · have hx : decide ((0 : Int) = 0) = true ∧ decide ((0 : Int) = 1) = false ∧ decide ((0 : Int) = 2) = false ∧ decide ((0 : Int) = 3) = false ∧ decide ((0 : Int) = 4) = false ∧ decide ((0 : Int) = 5) = false := by decide
        obtain ⟨hx0, hx1, hx2, hx3, hx4, hx5⟩ := hx
        (repeat refine W_seq ?_); refine W_regionT [] ?_
        simp only [go_sem, hx0]
        (repeat refine W_seq ?_)
        refine W_cond (b := true) rfl ?_
        simp only [if_true]
        (repeat refine W_seq ?_); refine W_regionT [] ?_
        simp only [go_sem]
        refine AT_call rfl rfl (num35 r hq1) fun v M1 hd1 h1 => ?_
        obtain ⟨hv, H4, rfl, u4, r4⟩ := h1; subst hv
        have f4 := f.upd u4 (fun h => hne h.symm) (fun k hk h => by have := hq2 k hk; omega)
        simp only [go_sem]
        refine AT_call rfl rfl (number36_1 f4 hqf) fun v M1 hd1 h1 => ?_
        obtain ⟨hv, H5, rfl, u5, f5⟩ := h1; subst hv
        have r5 := r4.upd u5 hne (fun k hk h => by omega)
        have uG5 := (uG.then u4 (fun k hk h => by omega)).then u5 (fun k hk h => by omega)
        generalize hs' : (rNum s 1).2 = s' at r5 f5
        simp only [go_sem, wrap_u8, show (((rNum s 1).1 : Nat) : Int) % 256 = ((rNum s 1).1 : Nat) by have := rNum_lt (s := s) (n := 1); omega, decide_true]
        (repeat refine W_seq ?_)
        refine W_cond (b := false) rfl ?_
        simp only [Bool.false_eq_true, if_false]
        refine W_skip ?_
        simp only [go_sem]
        have f5' := f5
        obtain ⟨wb, wB, wi, w1, w2, w3, w4, w5, w6⟩ := f5'
        have w1g : (⟨H5, [] :: S⟩ : Mem).get 0 H2.length = some (.row ⟨46, 3, [wb, .int .i64 (wi : Nat), .int .i64 s'.2], false, false⟩) := by rw [mem_get0]; exact w1
        (repeat refine W_seq ?_); refine W_regionD [] [1, 9, 11] [0, 2, 3, 4, 5, 1, 6, 7, 8, 10, 9, 11, 12, 13] [0, 1, 0, 4, 12, 28, 63, 127, 255, 511, 255, 2047, 4095, 8191] mixedM (by kernel_rfl) (by kernel_rfl) (by kernel_rfl) ?_
        simp only [listed, go_sem]
        refine AD_read (v := .ptr ⟨0, H2.length, 2⟩) (fun M' => M'.get 0 H2.length = some (.row ⟨46, 3, [wb, .int .i64 (wi : Nat), .int .i64 s'.2], false, false⟩)) rfl rfl (fun M' h => by show pureV (fieldAddrA Try.prog 46 (.ptr ⟨0, H2.length, 0⟩) 2 M') M' = _; rw [rfG_a2 h]; rfl) (w1g) ?_
        simp only [go_sem]
        refine AD_read (v := .int .i64 s'.2) (fun M' => M'.get 0 H2.length = some (.row ⟨46, 3, [wb, .int .i64 (wi : Nat), .int .i64 s'.2], false, false⟩)) rfl rfl (fun M' h => by show pureV (loadA Try.prog 44 (.ptr ⟨0, H2.length, 2⟩) M') M' = _; rw [rfG_l2 h]; rfl) (w1g) ?_
        simp only [go_sem]
        refine AD_call rfl rfl rfl (errno44 r5) fun v M1 hd1 h1 => ?_
        obtain ⟨hv, hM⟩ := h1; subst hv; subst hM
        refine ⟨⟨fun _ => w1g, fun _ => w1g, trivial⟩, ?_⟩
        simp only [go_sem, decide_true, decide_false]
        refine AD_call rfl rfl rfl (end45 r5) fun v M1 hd1 h1 => ?_
        obtain ⟨hv, hM⟩ := h1; subst hv; subst hM
        refine ⟨⟨fun _ => w1g, fun _ => w1g, trivial⟩, ?_⟩
        simp only [go_sem, decide_true]
        refine AD_call rfl rfl rfl (end46 f5) fun v M1 hd1 h1 => ?_
        obtain ⟨hv, hM⟩ := h1; subst hv; subst hM
        refine ⟨⟨fun _ => w1g, fun _ => w1g, trivial⟩, ?_⟩
        simp only [go_sem, decide_true]
        (repeat refine W_seq ?_)
        refine W_cond (b := false) rfl ?_
        simp only [Bool.false_eq_true, if_false]
        refine W_skip ?_
        simp only [go_sem]
        (repeat refine W_seq ?_); refine W_regionT [] ?_
        simp only [go_sem, show (i : Int) + 1 = ((i + 1 : Nat) : Int) from rfl, wrap_i64 (n := ((i + 1 : Nat) : Int)) (by omega) (by omega)]
        refine ⟨j - 1, by omega, _, _, _, _, _, _, _, _, _, _, _, _, _, _, _, _, _, _, _, _, _, _, _, _, _, _, _, _, _, _, _, _, _, _, _, _, _, _, _, _, _, _, _, _, _, _, _, _, _, _, _, _, _, _, _, _, _, _, _, _, _, _, _, _, _, _, _, _, _, _, _, _, _, _, _, _, _, _, _, _, _, _, _, _, _, _, _, _, _, _, _, _, _, _, _, _, _, _, _, _, _, _, _, _, _, _, _, _, _, _, i + 1, H5, s', rfl, by omega, rfl, uG5, r5, f5⟩
      · have hx : decide ((1 : Int) = 0) = false ∧ decide ((1 : Int) = 1) = true ∧ decide ((1 : Int) = 2) = false ∧ decide ((1 : Int) = 3) = false ∧ decide ((1 : Int) = 4) = false ∧ decide ((1 : Int) = 5) = false := by decide
        obtain ⟨hx0, hx1, hx2, hx3, hx4, hx5⟩ := hx
        (repeat refine W_seq ?_); refine W_regionT [] ?_
        simp only [go_sem, hx0]
        (repeat refine W_seq ?_)
        refine W_cond (b := false) rfl ?_
        simp only [Bool.false_eq_true, if_false]
        (repeat refine W_seq ?_); refine W_regionT [] ?_
        simp only [go_sem, hx1]
        (repeat refine W_seq ?_)
        refine W_cond (b := true) rfl ?_
        simp only [if_true]
        (repeat refine W_seq ?_); refine W_regionT [] ?_
        simp only [go_sem]
        refine AT_call rfl rfl (num37 r hq1) fun v M1 hd1 h1 => ?_
        obtain ⟨hv, H4, rfl, u4, r4⟩ := h1; subst hv
        have f4 := f.upd u4 (fun h => hne h.symm) (fun k hk h => by have := hq2 k hk; omega)
        simp only [go_sem]
        refine AT_call rfl rfl (number36_2 f4 hqf) fun v M1 hd1 h1 => ?_
        obtain ⟨hv, H5, rfl, u5, f5⟩ := h1; subst hv
        have r5 := r4.upd u5 hne (fun k hk h => by omega)
        have uG5 := (uG.then u4 (fun k hk h => by omega)).then u5 (fun k hk h => by omega)
        generalize hs' : (rNum s 2).2 = s' at r5 f5
        simp only [go_sem, wrap_u16, show (((rNum s 2).1 : Nat) : Int) % 65536 = ((rNum s 2).1 : Nat) by have := rNum_lt (s := s) (n := 2); omega, decide_true]
        (repeat refine W_seq ?_)
        refine W_cond (b := false) rfl ?_
        simp only [Bool.false_eq_true, if_false]
        refine W_skip ?_
        simp only [go_sem]
        have f5' := f5
        obtain ⟨wb, wB, wi, w1, w2, w3, w4, w5, w6⟩ := f5'
        have w1g : (⟨H5, [] :: S⟩ : Mem).get 0 H2.length = some (.row ⟨46, 3, [wb, .int .i64 (wi : Nat), .int .i64 s'.2], false, false⟩) := by rw [mem_get0]; exact w1
        (repeat refine W_seq ?_); refine W_regionD [] [1, 9, 11] [0, 2, 3, 4, 5, 1, 6, 7, 8, 10, 9, 11, 12, 13] [0, 1, 0, 4, 12, 28, 63, 127, 255, 511, 255, 2047, 4095, 8191] mixedM (by kernel_rfl) (by kernel_rfl) (by kernel_rfl) ?_
        simp only [listed, go_sem]
        refine AD_read (v := .ptr ⟨0, H2.length, 2⟩) (fun M' => M'.get 0 H2.length = some (.row ⟨46, 3, [wb, .int .i64 (wi : Nat), .int .i64 s'.2], false, false⟩)) rfl rfl (fun M' h => by show pureV (fieldAddrA Try.prog 46 (.ptr ⟨0, H2.length, 0⟩) 2 M') M' = _; rw [rfG_a2 h]; rfl) (w1g) ?_
        simp only [go_sem]
        refine AD_read (v := .int .i64 s'.2) (fun M' => M'.get 0 H2.length = some (.row ⟨46, 3, [wb, .int .i64 (wi : Nat), .int .i64 s'.2], false, false⟩)) rfl rfl (fun M' h => by show pureV (loadA Try.prog 44 (.ptr ⟨0, H2.length, 2⟩) M') M' = _; rw [rfG_l2 h]; rfl) (w1g) ?_
        simp only [go_sem]
        refine AD_call rfl rfl rfl (errno44 r5) fun v M1 hd1 h1 => ?_
        obtain ⟨hv, hM⟩ := h1; subst hv; subst hM
        refine ⟨⟨fun _ => w1g, fun _ => w1g, trivial⟩, ?_⟩
        simp only [go_sem, decide_true, decide_false]
        refine AD_call rfl rfl rfl (end45 r5) fun v M1 hd1 h1 => ?_
        obtain ⟨hv, hM⟩ := h1; subst hv; subst hM
        refine ⟨⟨fun _ => w1g, fun _ => w1g, trivial⟩, ?_⟩
        simp only [go_sem, decide_true]
        refine AD_call rfl rfl rfl (end46 f5) fun v M1 hd1 h1 => ?_
        obtain ⟨hv, hM⟩ := h1; subst hv; subst hM
        refine ⟨⟨fun _ => w1g, fun _ => w1g, trivial⟩, ?_⟩
        simp only [go_sem, decide_true]
        (repeat refine W_seq ?_)
        refine W_cond (b := false) rfl ?_
        simp only [Bool.false_eq_true, if_false]
        refine W_skip ?_
        simp only [go_sem]
        (repeat refine W_seq ?_); refine W_regionT [] ?_
        simp only [go_sem, show (i : Int) + 1 = ((i + 1 : Nat) : Int) from rfl, wrap_i64 (n := ((i + 1 : Nat) : Int)) (by omega) (by omega)]
        refine ⟨j - 1, by omega, _, _, _, _, _, _, _, _, _, _, _, _, _, _, _, _, _, _, _, _, _, _, _, _, _, _, _, _, _, _, _, _, _, _, _, _, _, _, _, _, _, _, _, _, _, _, _, _, _, _, _, _, _, _, _, _, _, _, _, _, _, _, _, _, _, _, _, _, _, _, _, _, _, _, _, _, _, _, _, _, _, _, _, _, _, _, _, _, _, _, _, _, _, _, _, _, _, _, _, _, _, _, _, _, _, _, _, _, _, _, i + 1, H5, s', rfl, by omega, rfl, uG5, r5, f5⟩
      · have hx : decide ((2 : Int) = 0) = false ∧ decide ((2 : Int) = 1) = false ∧ decide ((2 : Int) = 2) = true ∧ decide ((2 : Int) = 3) = false ∧ decide ((2 : Int) = 4) = false ∧ decide ((2 : Int) = 5) = false := by decide
        obtain ⟨hx0, hx1, hx2, hx3, hx4, hx5⟩ := hx
        (repeat refine W_seq ?_); refine W_regionT [] ?_
        simp only [go_sem, hx0]
        (repeat refine W_seq ?_)
        refine W_cond (b := false) rfl ?_
        simp only [Bool.false_eq_true, if_false]
        (repeat refine W_seq ?_); refine W_regionT [] ?_
        simp only [go_sem, hx1]
        (repeat refine W_seq ?_)
        refine W_cond (b := false) rfl ?_
        simp only [Bool.false_eq_true, if_false]
        (repeat refine W_seq ?_); refine W_regionT [] ?_
        simp only [go_sem, hx2]
        (repeat refine W_seq ?_)
        refine W_cond (b := true) rfl ?_
        simp only [if_true]
        (repeat refine W_seq ?_); refine W_regionT [] ?_
        simp only [go_sem]
        refine AT_call rfl rfl (num38 r hq1) fun v M1 hd1 h1 => ?_
        obtain ⟨hv, H4, rfl, u4, r4⟩ := h1; subst hv
        have f4 := f.upd u4 (fun h => hne h.symm) (fun k hk h => by have := hq2 k hk; omega)
        simp only [go_sem]
        refine AT_call rfl rfl (number36_4 f4 hqf) fun v M1 hd1 h1 => ?_
        obtain ⟨hv, H5, rfl, u5, f5⟩ := h1; subst hv
        have r5 := r4.upd u5 hne (fun k hk h => by omega)
        have uG5 := (uG.then u4 (fun k hk h => by omega)).then u5 (fun k hk h => by omega)
        generalize hs' : (rNum s 4).2 = s' at r5 f5
        simp only [go_sem, wrap_u32, show (((rNum s 4).1 : Nat) : Int) % 4294967296 = ((rNum s 4).1 : Nat) by have := rNum_lt (s := s) (n := 4); omega, decide_true]
        (repeat refine W_seq ?_)
        refine W_cond (b := false) rfl ?_
        simp only [Bool.false_eq_true, if_false]
        refine W_skip ?_
        simp only [go_sem]
        have f5' := f5
        obtain ⟨wb, wB, wi, w1, w2, w3, w4, w5, w6⟩ := f5'
        have w1g : (⟨H5, [] :: S⟩ : Mem).get 0 H2.length = some (.row ⟨46, 3, [wb, .int .i64 (wi : Nat), .int .i64 s'.2], false, false⟩) := by rw [mem_get0]; exact w1
        (repeat refine W_seq ?_); refine W_regionD [] [1, 9, 11] [0, 2, 3, 4, 5, 1, 6, 7, 8, 10, 9, 11, 12, 13] [0, 1, 0, 4, 12, 28, 63, 127, 255, 511, 255, 2047, 4095, 8191] mixedM (by kernel_rfl) (by kernel_rfl) (by kernel_rfl) ?_
        simp only [listed, go_sem]
        refine AD_read (v := .ptr ⟨0, H2.length, 2⟩) (fun M' => M'.get 0 H2.length = some (.row ⟨46, 3, [wb, .int .i64 (wi : Nat), .int .i64 s'.2], false, false⟩)) rfl rfl (fun M' h => by show pureV (fieldAddrA Try.prog 46 (.ptr ⟨0, H2.length, 0⟩) 2 M') M' = _; rw [rfG_a2 h]; rfl) (w1g) ?_
        simp only [go_sem]
        refine AD_read (v := .int .i64 s'.2) (fun M' => M'.get 0 H2.length = some (.row ⟨46, 3, [wb, .int .i64 (wi : Nat), .int .i64 s'.2], false, false⟩)) rfl rfl (fun M' h => by show pureV (loadA Try.prog 44 (.ptr ⟨0, H2.length, 2⟩) M') M' = _; rw [rfG_l2 h]; rfl) (w1g) ?_
        simp only [go_sem]
        refine AD_call rfl rfl rfl (errno44 r5) fun v M1 hd1 h1 => ?_
        obtain ⟨hv, hM⟩ := h1; subst hv; subst hM
        refine ⟨⟨fun _ => w1g, fun _ => w1g, trivial⟩, ?_⟩
        simp only [go_sem, decide_true, decide_false]
        refine AD_call rfl rfl rfl (end45 r5) fun v M1 hd1 h1 => ?_
        obtain ⟨hv, hM⟩ := h1; subst hv; subst hM
        refine ⟨⟨fun _ => w1g, fun _ => w1g, trivial⟩, ?_⟩
        simp only [go_sem, decide_true]
        refine AD_call rfl rfl rfl (end46 f5) fun v M1 hd1 h1 => ?_
        obtain ⟨hv, hM⟩ := h1; subst hv; subst hM
        refine ⟨⟨fun _ => w1g, fun _ => w1g, trivial⟩, ?_⟩
        simp only [go_sem, decide_true]
        (repeat refine W_seq ?_)
        refine W_cond (b := false) rfl ?_
        simp only [Bool.false_eq_true, if_false]
        refine W_skip ?_
        simp only [go_sem]
        (repeat refine W_seq ?_); refine W_regionT [] ?_
        simp only [go_sem, show (i : Int) + 1 = ((i + 1 : Nat) : Int) from rfl, wrap_i64 (n := ((i + 1 : Nat) : Int)) (by omega) (by omega)]
        refine ⟨j - 1, by omega, _, _, _, _, _, _, _, _, _, _, _, _, _, _, _, _, _, _, _, _, _, _, _, _, _, _, _, _, _, _, _, _, _, _, _, _, _, _, _, _, _, _, _, _, _, _, _, _, _, _, _, _, _, _, _, _, _, _, _, _, _, _, _, _, _, _, _, _, _, _, _, _, _, _, _, _, _, _, _, _, _, _, _, _, _, _, _, _, _, _, _, _, _, _, _, _, _, _, _, _, _, _, _, _, _, _, _, _, _, _, i + 1, H5, s', rfl, by omega, rfl, uG5, r5, f5⟩
      · have hx : decide ((3 : Int) = 0) = false ∧ decide ((3 : Int) = 1) = false ∧ decide ((3 : Int) = 2) = false ∧ decide ((3 : Int) = 3) = true ∧ decide ((3 : Int) = 4) = false ∧ decide ((3 : Int) = 5) = false := by decide
        obtain ⟨hx0, hx1, hx2, hx3, hx4, hx5⟩ := hx
        (repeat refine W_seq ?_); refine W_regionT [] ?_
        simp only [go_sem, hx0]
        (repeat refine W_seq ?_)
        refine W_cond (b := false) rfl ?_
        simp only [Bool.false_eq_true, if_false]
        (repeat refine W_seq ?_); refine W_regionT [] ?_
        simp only [go_sem, hx1]
        (repeat refine W_seq ?_)
        refine W_cond (b := false) rfl ?_
        simp only [Bool.false_eq_true, if_false]
        (repeat refine W_seq ?_); refine W_regionT [] ?_
        simp only [go_sem, hx2]
        (repeat refine W_seq ?_)
        refine W_cond (b := false) rfl ?_
        simp only [Bool.false_eq_true, if_false]
        (repeat refine W_seq ?_); refine W_regionT [] ?_
        simp only [go_sem, hx3]
        (repeat refine W_seq ?_)
        refine W_cond (b := true) rfl ?_
        simp only [if_true]
        (repeat refine W_seq ?_); refine W_regionT [] ?_
        simp only [go_sem]
        refine AT_call rfl rfl (num39 r hq1) fun v M1 hd1 h1 => ?_
        obtain ⟨hv, H4, rfl, u4, r4⟩ := h1; subst hv
        have f4 := f.upd u4 (fun h => hne h.symm) (fun k hk h => by have := hq2 k hk; omega)
        simp only [go_sem]
        refine AT_call rfl rfl (number36_8 f4 hqf) fun v M1 hd1 h1 => ?_
        obtain ⟨hv, H5, rfl, u5, f5⟩ := h1; subst hv
        have r5 := r4.upd u5 hne (fun k hk h => by omega)
        have uG5 := (uG.then u4 (fun k hk h => by omega)).then u5 (fun k hk h => by omega)
        generalize hs' : (rNum s 8).2 = s' at r5 f5
        simp only [go_sem]
        (repeat refine W_seq ?_)
        refine W_cond (b := false) rfl ?_
        simp only [Bool.false_eq_true, if_false]
        refine W_skip ?_
        simp only [go_sem]
        have f5' := f5
        obtain ⟨wb, wB, wi, w1, w2, w3, w4, w5, w6⟩ := f5'
        have w1g : (⟨H5, [] :: S⟩ : Mem).get 0 H2.length = some (.row ⟨46, 3, [wb, .int .i64 (wi : Nat), .int .i64 s'.2], false, false⟩) := by rw [mem_get0]; exact w1
        (repeat refine W_seq ?_); refine W_regionD [] [1, 9, 11] [0, 2, 3, 4, 5, 1, 6, 7, 8, 10, 9, 11, 12, 13] [0, 1, 0, 4, 12, 28, 63, 127, 255, 511, 255, 2047, 4095, 8191] mixedM (by kernel_rfl) (by kernel_rfl) (by kernel_rfl) ?_
        simp only [listed, go_sem]
        refine AD_read (v := .ptr ⟨0, H2.length, 2⟩) (fun M' => M'.get 0 H2.length = some (.row ⟨46, 3, [wb, .int .i64 (wi : Nat), .int .i64 s'.2], false, false⟩)) rfl rfl (fun M' h => by show pureV (fieldAddrA Try.prog 46 (.ptr ⟨0, H2.length, 0⟩) 2 M') M' = _; rw [rfG_a2 h]; rfl) (w1g) ?_
        simp only [go_sem]
        refine AD_read (v := .int .i64 s'.2) (fun M' => M'.get 0 H2.length = some (.row ⟨46, 3, [wb, .int .i64 (wi : Nat), .int .i64 s'.2], false, false⟩)) rfl rfl (fun M' h => by show pureV (loadA Try.prog 44 (.ptr ⟨0, H2.length, 2⟩) M') M' = _; rw [rfG_l2 h]; rfl) (w1g) ?_
        simp only [go_sem]
        refine AD_call rfl rfl rfl (errno44 r5) fun v M1 hd1 h1 => ?_
        obtain ⟨hv, hM⟩ := h1; subst hv; subst hM
        refine ⟨⟨fun _ => w1g, fun _ => w1g, trivial⟩, ?_⟩
        simp only [go_sem, decide_true, decide_false]
        refine AD_call rfl rfl rfl (end45 r5) fun v M1 hd1 h1 => ?_
        obtain ⟨hv, hM⟩ := h1; subst hv; subst hM
        refine ⟨⟨fun _ => w1g, fun _ => w1g, trivial⟩, ?_⟩
        simp only [go_sem, decide_true]
        refine AD_call rfl rfl rfl (end46 f5) fun v M1 hd1 h1 => ?_
        obtain ⟨hv, hM⟩ := h1; subst hv; subst hM
        refine ⟨⟨fun _ => w1g, fun _ => w1g, trivial⟩, ?_⟩
        simp only [go_sem, decide_true]
        (repeat refine W_seq ?_)
        refine W_cond (b := false) rfl ?_
        simp only [Bool.false_eq_true, if_false]
        refine W_skip ?_
        simp only [go_sem]
        (repeat refine W_seq ?_); refine W_regionT [] ?_
        simp only [go_sem, show (i : Int) + 1 = ((i + 1 : Nat) : Int) from rfl, wrap_i64 (n := ((i + 1 : Nat) : Int)) (by omega) (by omega)]
        refine ⟨j - 1, by omega, _, _, _, _, _, _, _, _, _, _, _, _, _, _, _, _, _, _, _, _, _, _, _, _, _, _, _, _, _, _, _, _, _, _, _, _, _, _, _, _, _, _, _, _, _, _, _, _, _, _, _, _, _, _, _, _, _, _, _, _, _, _, _, _, _, _, _, _, _, _, _, _, _, _, _, _, _, _, _, _, _, _, _, _, _, _, _, _, _, _, _, _, _, _, _, _, _, _, _, _, _, _, _, _, _, _, _, _, _, _, i + 1, H5, s', rfl, by omega, rfl, uG5, r5, f5⟩
      · have hx : decide ((4 : Int) = 0) = false ∧ decide ((4 : Int) = 1) = false ∧ decide ((4 : Int) = 2) = false ∧ decide ((4 : Int) = 3) = false ∧ decide ((4 : Int) = 4) = true ∧ decide ((4 : Int) = 5) = false := by decide
        obtain ⟨hx0, hx1, hx2, hx3, hx4, hx5⟩ := hx
        (repeat refine W_seq ?_); refine W_regionT [] ?_
        simp only [go_sem, hx0]
        (repeat refine W_seq ?_)
        refine W_cond (b := false) rfl ?_
        simp only [Bool.false_eq_true, if_false]
        (repeat refine W_seq ?_); refine W_regionT [] ?_
        simp only [go_sem, hx1]
        (repeat refine W_seq ?_)
        refine W_cond (b := false) rfl ?_
        simp only [Bool.false_eq_true, if_false]
        (repeat refine W_seq ?_); refine W_regionT [] ?_
        simp only [go_sem, hx2]
        (repeat refine W_seq ?_)
        refine W_cond (b := false) rfl ?_
        simp only [Bool.false_eq_true, if_false]
        (repeat refine W_seq ?_); refine W_regionT [] ?_
        simp only [go_sem, hx3]
        (repeat refine W_seq ?_)
        refine W_cond (b := false) rfl ?_
        simp only [Bool.false_eq_true, if_false]
        (repeat refine W_seq ?_); refine W_regionT [] ?_
        simp only [go_sem, hx4]
        (repeat refine W_seq ?_)
        refine W_cond (b := true) rfl ?_
        simp only [if_true]
        (repeat refine W_seq ?_); refine W_regionT [] ?_
        simp only [go_sem]
        refine AT_call rfl rfl (readText r hq1) fun v M1 hd1 h1 => ?_
        obtain ⟨hv, H4, rfl, u4, r4⟩ := h1; subst hv
        have f4 := f.upd u4 (fun h => hne h.symm) (fun k hk h => by have := hq2 k hk; omega)
        simp only [go_sem]
        refine AT_call rfl rfl (refText41 f4 hqf) fun v M1 hd1 h1 => ?_
        obtain ⟨hv, H5, rfl, u5, f5⟩ := h1; subst hv
        have r5 := r4.upd u5 hne (fun k hk h => by omega)
        have uG5 := (uG.then u4 (fun k hk h => by omega)).then u5 (fun k hk h => by omega)
        generalize hs' : (rText s).2 = s' at r5 f5
        simp only [go_sem, beq_self_eq_true]
        (repeat refine W_seq ?_)
        refine W_cond (b := false) rfl ?_
        simp only [Bool.false_eq_true, if_false]
        refine W_skip ?_
        simp only [go_sem]
        have f5' := f5
        obtain ⟨wb, wB, wi, w1, w2, w3, w4, w5, w6⟩ := f5'
        have w1g : (⟨H5, [] :: S⟩ : Mem).get 0 H2.length = some (.row ⟨46, 3, [wb, .int .i64 (wi : Nat), .int .i64 s'.2], false, false⟩) := by rw [mem_get0]; exact w1
        (repeat refine W_seq ?_); refine W_regionD [] [1, 9, 11] [0, 2, 3, 4, 5, 1, 6, 7, 8, 10, 9, 11, 12, 13] [0, 1, 0, 4, 12, 28, 63, 127, 255, 511, 255, 2047, 4095, 8191] mixedM (by kernel_rfl) (by kernel_rfl) (by kernel_rfl) ?_
        simp only [listed, go_sem]
        refine AD_read (v := .ptr ⟨0, H2.length, 2⟩) (fun M' => M'.get 0 H2.length = some (.row ⟨46, 3, [wb, .int .i64 (wi : Nat), .int .i64 s'.2], false, false⟩)) rfl rfl (fun M' h => by show pureV (fieldAddrA Try.prog 46 (.ptr ⟨0, H2.length, 0⟩) 2 M') M' = _; rw [rfG_a2 h]; rfl) (w1g) ?_
        simp only [go_sem]
        refine AD_read (v := .int .i64 s'.2) (fun M' => M'.get 0 H2.length = some (.row ⟨46, 3, [wb, .int .i64 (wi : Nat), .int .i64 s'.2], false, false⟩)) rfl rfl (fun M' h => by show pureV (loadA Try.prog 44 (.ptr ⟨0, H2.length, 2⟩) M') M' = _; rw [rfG_l2 h]; rfl) (w1g) ?_
        simp only [go_sem]
        refine AD_call rfl rfl rfl (errno44 r5) fun v M1 hd1 h1 => ?_
        obtain ⟨hv, hM⟩ := h1; subst hv; subst hM
        refine ⟨⟨fun _ => w1g, fun _ => w1g, trivial⟩, ?_⟩
        simp only [go_sem, decide_true, decide_false]
        refine AD_call rfl rfl rfl (end45 r5) fun v M1 hd1 h1 => ?_
        obtain ⟨hv, hM⟩ := h1; subst hv; subst hM
        refine ⟨⟨fun _ => w1g, fun _ => w1g, trivial⟩, ?_⟩
        simp only [go_sem, decide_true]
        refine AD_call rfl rfl rfl (end46 f5) fun v M1 hd1 h1 => ?_
        obtain ⟨hv, hM⟩ := h1; subst hv; subst hM
        refine ⟨⟨fun _ => w1g, fun _ => w1g, trivial⟩, ?_⟩
        simp only [go_sem, decide_true]
        (repeat refine W_seq ?_)
        refine W_cond (b := false) rfl ?_
        simp only [Bool.false_eq_true, if_false]
        refine W_skip ?_
        simp only [go_sem]
        (repeat refine W_seq ?_); refine W_regionT [] ?_
        simp only [go_sem, show (i : Int) + 1 = ((i + 1 : Nat) : Int) from rfl, wrap_i64 (n := ((i + 1 : Nat) : Int)) (by omega) (by omega)]
        refine ⟨j - 1, by omega, _, _, _, _, _, _, _, _, _, _, _, _, _, _, _, _, _, _, _, _, _, _, _, _, _, _, _, _, _, _, _, _, _, _, _, _, _, _, _, _, _, _, _, _, _, _, _, _, _, _, _, _, _, _, _, _, _, _, _, _, _, _, _, _, _, _, _, _, _, _, _, _, _, _, _, _, _, _, _, _, _, _, _, _, _, _, _, _, _, _, _, _, _, _, _, _, _, _, _, _, _, _, _, _, _, _, _, _, _, _, i + 1, H5, s', rfl, by omega, rfl, uG5, r5, f5⟩
      · have hx : decide ((5 : Int) = 0) = false ∧ decide ((5 : Int) = 1) = false ∧ decide ((5 : Int) = 2) = false ∧ decide ((5 : Int) = 3) = false ∧ decide ((5 : Int) = 4) = false ∧ decide ((5 : Int) = 5) = true := by decide
        obtain ⟨hx0, hx1, hx2, hx3, hx4, hx5⟩ := hx
        (repeat refine W_seq ?_); refine W_regionT [] ?_
        simp only [go_sem, hx0]
        (repeat refine W_seq ?_)
        refine W_cond (b := false) rfl ?_
        simp only [Bool.false_eq_true, if_false]
        (repeat refine W_seq ?_); refine W_regionT [] ?_
        simp only [go_sem, hx1]
        (repeat refine W_seq ?_)
        refine W_cond (b := false) rfl ?_
        simp only [Bool.false_eq_true, if_false]
        (repeat refine W_seq ?_); refine W_regionT [] ?_
        simp only [go_sem, hx2]
        (repeat refine W_seq ?_)
        refine W_cond (b := false) rfl ?_
        simp only [Bool.false_eq_true, if_false]
        (repeat refine W_seq ?_); refine W_regionT [] ?_
        simp only [go_sem, hx3]
        (repeat refine W_seq ?_)
        refine W_cond (b := false) rfl ?_
        simp only [Bool.false_eq_true, if_false]
        (repeat refine W_seq ?_); refine W_regionT [] ?_
        simp only [go_sem, hx4]
        (repeat refine W_seq ?_)
        refine W_cond (b := false) rfl ?_
        simp only [Bool.false_eq_true, if_false]
        (repeat refine W_seq ?_); refine W_regionT [] ?_
        simp only [go_sem, hx5]
        (repeat refine W_seq ?_)
        refine W_cond (b := true) rfl ?_
        simp only [if_true]
        (repeat refine W_seq ?_); refine W_regionT [] ?_
        simp only [go_sem]
        refine AT_call rfl rfl (aroundF hq.1 hq.2 (by decide)) fun v M1 hd1 h1 => ?_
        obtain ⟨hv, hM⟩ := h1
        have hrm := around_range (n := q) (k := 31) (by decide)
        generalize around q 31 = most at hv hrm
        subst hv; subst hM
        simp only [go_sem]
        (repeat refine W_seq ?_); refine W_regionD [] [2, 6] [0, 1, 4, 5, 2, 3, 6, 7, 8] [0, 0, 3, 7, 0, 0, 55, 119, 255] mixedM (by kernel_rfl) (by kernel_rfl) (by kernel_rfl) ?_
        simp only [listed, go_sem]
        refine AD_call rfl rfl rfl (readData (most := most) r hq1) fun v M1 hd1 h1 => ?_
        obtain ⟨H4, rfl, u4, r4, b4, c4⟩ := h1
        have f4 := f.upd u4 (fun h => hne h.symm) (fun k hk h => by have := hq2 k hk; omega)
        rename AV => v1
        refine ⟨trivial, ?_⟩
        simp only [go_sem]
        refine AD_read (v := .str (rData s most).1) (fun M' => RB M' v1 (rData s most).1) rfl rfl (fun M' h => h.text bt22 st9) (b4.rb) ?_
        simp only [go_sem]
        refine AD_call rfl rfl rfl (refData43 (most := most) f4 hqf) fun v M1 hd1 h1 => ?_
        obtain ⟨H5, rfl, u5, f5, b5, c5⟩ := h1
        have r5 := r4.upd u5 hne (fun k hk h => by omega)
        have uG5 := (uG.then u4 (fun k hk h => by omega)).then u5 (fun k hk h => by omega)
        have b4' := b4.upd u5 (fun k hk h => by have := c4 k hk; omega)
        generalize hs' : (rData s most).2 = s' at r5 f5
        rename AV => v2
        refine ⟨⟨fun _ => b4'.rb, trivial⟩, ?_⟩
        simp only [go_sem]
        refine AD_read (v := .str (rData s most).1) (fun M' => RB M' v2 (rData s most).1) rfl rfl (fun M' h => h.text bt22 st9) (b5.rb) ?_
        simp only [go_sem]
        (repeat refine W_seq ?_)
        refine W_cond (b := false) rfl ?_
        simp only [Bool.false_eq_true, if_false]
        refine W_skip ?_
        simp only [go_sem]
        have f5' := f5
        obtain ⟨wb, wB, wi, w1, w2, w3, w4, w5, w6⟩ := f5'
        have w1g : (⟨H5, [] :: S⟩ : Mem).get 0 H2.length = some (.row ⟨46, 3, [wb, .int .i64 (wi : Nat), .int .i64 s'.2], false, false⟩) := by rw [mem_get0]; exact w1
        (repeat refine W_seq ?_); refine W_regionD [] [1, 9, 11] [0, 2, 3, 4, 5, 1, 6, 7, 8, 10, 9, 11, 12, 13] [0, 1, 0, 4, 12, 28, 63, 127, 255, 511, 255, 2047, 4095, 8191] mixedM (by kernel_rfl) (by kernel_rfl) (by kernel_rfl) ?_
        simp only [listed, go_sem]
        refine AD_read (v := .ptr ⟨0, H2.length, 2⟩) (fun M' => M'.get 0 H2.length = some (.row ⟨46, 3, [wb, .int .i64 (wi : Nat), .int .i64 s'.2], false, false⟩)) rfl rfl (fun M' h => by show pureV (fieldAddrA Try.prog 46 (.ptr ⟨0, H2.length, 0⟩) 2 M') M' = _; rw [rfG_a2 h]; rfl) (w1g) ?_
        simp only [go_sem]
        refine AD_read (v := .int .i64 s'.2) (fun M' => M'.get 0 H2.length = some (.row ⟨46, 3, [wb, .int .i64 (wi : Nat), .int .i64 s'.2], false, false⟩)) rfl rfl (fun M' h => by show pureV (loadA Try.prog 44 (.ptr ⟨0, H2.length, 2⟩) M') M' = _; rw [rfG_l2 h]; rfl) (w1g) ?_
        simp only [go_sem]
        refine AD_call rfl rfl rfl (errno44 r5) fun v M1 hd1 h1 => ?_
        obtain ⟨hv, hM⟩ := h1; subst hv; subst hM
        refine ⟨⟨fun _ => w1g, fun _ => w1g, trivial⟩, ?_⟩
        simp only [go_sem, decide_true, decide_false]
        refine AD_call rfl rfl rfl (end45 r5) fun v M1 hd1 h1 => ?_
        obtain ⟨hv, hM⟩ := h1; subst hv; subst hM
        refine ⟨⟨fun _ => w1g, fun _ => w1g, trivial⟩, ?_⟩
        simp only [go_sem, decide_true]
        refine AD_call rfl rfl rfl (end46 f5) fun v M1 hd1 h1 => ?_
        obtain ⟨hv, hM⟩ := h1; subst hv; subst hM
        refine ⟨⟨fun _ => w1g, fun _ => w1g, trivial⟩, ?_⟩
        simp only [go_sem, decide_true]
        (repeat refine W_seq ?_)
        refine W_cond (b := false) rfl ?_
        simp only [Bool.false_eq_true, if_false]
        refine W_skip ?_
        simp only [go_sem]
        (repeat refine W_seq ?_); refine W_regionT [] ?_
        simp only [go_sem, show (i : Int) + 1 = ((i + 1 : Nat) : Int) from rfl, wrap_i64 (n := ((i + 1 : Nat) : Int)) (by omega) (by omega)]
        refine ⟨j - 1, by omega, _, _, _, _, _, _, _, _, _, _, _, _, _, _, _, _, _, _, _, _, _, _, _, _, _, _, _, _, _, _, _, _, _, _, _, _, _, _, _, _, _, _, _, _, _, _, _, _, _, _, _, _, _, _, _, _, _, _, _, _, _, _, _, _, _, _, _, _, _, _, _, _, _, _, _, _, _, _, _, _, _, _, _, _, _, _, _, _, _, _, _, _, _, _, _, _, _, _, _, _, _, _, _, _, _, _, _, _, _, _, i + 1, H5, s', rfl, by omega, rfl, uG5, r5, f5⟩
      · have hx : decide ((6 : Int) = 0) = false ∧ decide ((6 : Int) = 1) = false ∧ decide ((6 : Int) = 2) = false ∧ decide ((6 : Int) = 3) = false ∧ decide ((6 : Int) = 4) = false ∧ decide ((6 : Int) = 5) = false := by decide
        obtain ⟨hx0, hx1, hx2, hx3, hx4, hx5⟩ := hx
        (repeat refine W_seq ?_); refine W_regionT [] ?_
        simp only [go_sem, hx0]
        (repeat refine W_seq ?_)
        refine W_cond (b := false) rfl ?_
        simp only [Bool.false_eq_true, if_false]
        (repeat refine W_seq ?_); refine W_regionT [] ?_
        simp only [go_sem, hx1]
        (repeat refine W_seq ?_)
        refine W_cond (b := false) rfl ?_
        simp only [Bool.false_eq_true, if_false]
        (repeat refine W_seq ?_); refine W_regionT [] ?_
        simp only [go_sem, hx2]
        (repeat refine W_seq ?_)
        refine W_cond (b := false) rfl ?_
        simp only [Bool.false_eq_true, if_false]
        (repeat refine W_seq ?_); refine W_regionT [] ?_
        simp only [go_sem, hx3]
        (repeat refine W_seq ?_)
        refine W_cond (b := false) rfl ?_
        simp only [Bool.false_eq_true, if_false]
        (repeat refine W_seq ?_); refine W_regionT [] ?_
        simp only [go_sem, hx4]
        (repeat refine W_seq ?_)
        refine W_cond (b := false) rfl ?_
        simp only [Bool.false_eq_true, if_false]
        (repeat refine W_seq ?_); refine W_regionT [] ?_
        simp only [go_sem, hx5]
        (repeat refine W_seq ?_)
        refine W_cond (b := false) rfl ?_
        simp only [Bool.false_eq_true, if_false]
        (repeat refine W_seq ?_); refine W_regionD [] [2, 6] [0, 1, 4, 5, 2, 3, 6, 7, 8] [0, 0, 3, 7, 0, 0, 55, 119, 255] mixedM (by kernel_rfl) (by kernel_rfl) (by kernel_rfl) ?_
        simp only [listed, go_sem]
        refine AD_call rfl rfl rfl (readData (most := q) r hq1) fun v M1 hd1 h1 => ?_
        obtain ⟨H4, rfl, u4, r4, b4, c4⟩ := h1
        have f4 := f.upd u4 (fun h => hne h.symm) (fun k hk h => by have := hq2 k hk; omega)
        rename AV => v1
        refine ⟨trivial, ?_⟩
        simp only [go_sem]
        refine AD_read (v := .str (rData s q).1) (fun M' => RB M' v1 (rData s q).1) rfl rfl (fun M' h => h.text bt22 st9) (b4.rb) ?_
        simp only [go_sem]
        refine AD_call rfl rfl rfl (refData43 (most := q) f4 hqf) fun v M1 hd1 h1 => ?_
        obtain ⟨H5, rfl, u5, f5, b5, c5⟩ := h1
        have r5 := r4.upd u5 hne (fun k hk h => by omega)
        have uG5 := (uG.then u4 (fun k hk h => by omega)).then u5 (fun k hk h => by omega)
        have b4' := b4.upd u5 (fun k hk h => by have := c4 k hk; omega)
        generalize hs' : (rData s q).2 = s' at r5 f5
        rename AV => v2
        refine ⟨⟨fun _ => b4'.rb, trivial⟩, ?_⟩
        simp only [go_sem]
        refine AD_read (v := .str (rData s q).1) (fun M' => RB M' v2 (rData s q).1) rfl rfl (fun M' h => h.text bt22 st9) (b5.rb) ?_
        simp only [go_sem]
        (repeat refine W_seq ?_)
        refine W_cond (b := false) rfl ?_
        simp only [Bool.false_eq_true, if_false]
        refine W_skip ?_
        simp only [go_sem]
        have f5' := f5
        obtain ⟨wb, wB, wi, w1, w2, w3, w4, w5, w6⟩ := f5'
        have w1g : (⟨H5, [] :: S⟩ : Mem).get 0 H2.length = some (.row ⟨46, 3, [wb, .int .i64 (wi : Nat), .int .i64 s'.2], false, false⟩) := by rw [mem_get0]; exact w1
        (repeat refine W_seq ?_); refine W_regionD [] [1, 9, 11] [0, 2, 3, 4, 5, 1, 6, 7, 8, 10, 9, 11, 12, 13] [0, 1, 0, 4, 12, 28, 63, 127, 255, 511, 255, 2047, 4095, 8191] mixedM (by kernel_rfl) (by kernel_rfl) (by kernel_rfl) ?_
        simp only [listed, go_sem]
        refine AD_read (v := .ptr ⟨0, H2.length, 2⟩) (fun M' => M'.get 0 H2.length = some (.row ⟨46, 3, [wb, .int .i64 (wi : Nat), .int .i64 s'.2], false, false⟩)) rfl rfl (fun M' h => by show pureV (fieldAddrA Try.prog 46 (.ptr ⟨0, H2.length, 0⟩) 2 M') M' = _; rw [rfG_a2 h]; rfl) (w1g) ?_
        simp only [go_sem]
        refine AD_read (v := .int .i64 s'.2) (fun M' => M'.get 0 H2.length = some (.row ⟨46, 3, [wb, .int .i64 (wi : Nat), .int .i64 s'.2], false, false⟩)) rfl rfl (fun M' h => by show pureV (loadA Try.prog 44 (.ptr ⟨0, H2.length, 2⟩) M') M' = _; rw [rfG_l2 h]; rfl) (w1g) ?_
        simp only [go_sem]
        refine AD_call rfl rfl rfl (errno44 r5) fun v M1 hd1 h1 => ?_
        obtain ⟨hv, hM⟩ := h1; subst hv; subst hM
        refine ⟨⟨fun _ => w1g, fun _ => w1g, trivial⟩, ?_⟩
        simp only [go_sem, decide_true, decide_false]
        refine AD_call rfl rfl rfl (end45 r5) fun v M1 hd1 h1 => ?_
        obtain ⟨hv, hM⟩ := h1; subst hv; subst hM
        refine ⟨⟨fun _ => w1g, fun _ => w1g, trivial⟩, ?_⟩
        simp only [go_sem, decide_true]
        refine AD_call rfl rfl rfl (end46 f5) fun v M1 hd1 h1 => ?_
        obtain ⟨hv, hM⟩ := h1; subst hv; subst hM
        refine ⟨⟨fun _ => w1g, fun _ => w1g, trivial⟩, ?_⟩
        simp only [go_sem, decide_true]
        (repeat refine W_seq ?_)
        refine W_cond (b := false) rfl ?_
        simp only [Bool.false_eq_true, if_false]
        refine W_skip ?_
        simp only [go_sem]
        (repeat refine W_seq ?_); refine W_regionT [] ?_
        simp only [go_sem, show (i : Int) + 1 = ((i + 1 : Nat) : Int) from rfl, wrap_i64 (n := ((i + 1 : Nat) : Int)) (by omega) (by omega)]
        refine ⟨j - 1, by omega, _, _, _, _, _, _, _, _, _, _, _, _, _, _, _, _, _, _, _, _, _, _, _, _, _, _, _, _, _, _, _, _, _, _, _, _, _, _, _, _, _, _, _, _, _, _, _, _, _, _, _, _, _, _, _, _, _, _, _, _, _, _, _, _, _, _, _, _, _, _, _, _, _, _, _, _, _, _, _, _, _, _, _, _, _, _, _, _, _, _, _, _, _, _, _, _, _, _, _, _, _, _, _, _, _, _, _, _, _, _, i + 1, H5, s', rfl, by omega, rfl, uG5, r5, f5⟩
    · (repeat refine W_seq ?_)
      refine W_exit ?_
      simp only [go_sem]
      (repeat refine W_seq ?_); refine W_regionT [] ?_
      simp only [go_sem]
      refine AT_call rfl rfl (lives02) fun v M1 hd1 h1 => ?_
      obtain ⟨hv, hM⟩ := h1; subst hv; subst hM
      simp only [go_sem]
      exact W_ret ⟨.inr rfl, _, rfl, rfl, rfl⟩
  · have hN' : ¬ (i : Int) < (css.length : Int) := by omega
    have hlen := len_rd ((hc.new uG).rd (S := [] :: S)) ti40 rfl
    (repeat refine W_seq ?_); refine W_regionT [] ?_
    simp only [go_sem, hlen, hN', decide_true, decide_false]
    (repeat refine W_seq ?_)
    refine W_cond (b := false) rfl ?_
    simp only [Bool.false_eq_true, if_false]
    (repeat refine W_seq ?_)
    refine W_exit ?_
    simp only [go_sem]
    (repeat refine W_seq ?_); refine W_regionT [] ?_
    simp only [go_sem]
    refine AT_call rfl rfl (lives02) fun v M1 hd1 h1 => ?_
    obtain ⟨hv, hM⟩ := h1; subst hv; subst hM
    simp only [go_sem]
    exact W_ret ⟨.inr rfl, _, rfl, rfl, rfl⟩
end
end Go.Proofs.Ytlpcbfndjffpfaa
