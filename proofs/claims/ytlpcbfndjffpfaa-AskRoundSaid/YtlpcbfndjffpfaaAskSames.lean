/- The walk of AskSame. -/
import Derived.Test.YtlpcbfndjffpfaaGoods
import Derived.Test.YtlpcbfndjffpfaaAsks4
set_option maxRecDepth 100000
set_option maxHeartbeats 4000000
set_option linter.unusedSimpArgs false
set_option linter.unusedVariables false
namespace Go.Proofs.Ytlpcbfndjffpfaa
open Go.Abs
/-- Requests in a row. -/
abbrev Req := AskR × AV × AV
def Req.cells (t : Req) : List AV := t.1.cells t.2.1 t.2.2
theorem Req.len {t : Req} : t.cells.length = 14 := rfl
theorem chunk : ∀ (l : List Req) (i : Nat) (hi : i < l.length), ((l.flatMap Req.cells).drop (i * 14)).take 14 = l[i].cells
  | t :: l, 0, _ => by
    simp only [List.flatMap_cons, Nat.zero_mul, List.drop_zero, List.getElem_cons_zero]
    rw [List.take_append_of_le_length (by rw [Req.len]; decide), List.take_of_length_le (by rw [Req.len]; decide)]
  | t :: l, i + 1, hi => by
    simp only [List.flatMap_cons, List.getElem_cons_succ]
    rw [show (i + 1) * 14 = t.cells.length + i * 14 by rw [Req.len]; omega, ← List.drop_drop, List.drop_left]
    exact chunk l i (by simpa using hi)
theorem chunks_len : ∀ (l : List Req), (l.flatMap Req.cells).length = l.length * 14
  | [] => rfl
  | t :: l => by rw [List.flatMap_cons, List.length_append, chunks_len l, Req.len, List.length_cons]; omega
/-- A list of requests in memory. -/
def QH (H : List Block) (v : AV) (l : List Req) : Prop := ∃ ix, v = .sl ⟨0, ix, 0⟩ l.length (some l.length) ∧ H[ix]? = some (.row ⟨72, 14, l.flatMap Req.cells, false, false⟩) ∧ ∀ t ∈ l, TH H t.2.1 t.1.names ∧ BH H t.2.2 t.1.data
/-- Where the i-th lies. -/
def idq (v : AV) (i : Nat) : AV := match v with | .sl a _ _ => .ptr { a with off := a.off + i * 14 } | _ => .undef
section
variable {H H' : List Block} {S : List (List Block)} {F : List Block} {M' : Mem}
theorem QH.new {v : AV} {l : List Req} (h : QH H v l) (u : UpdH no H H') : QH H' v l := by
  obtain ⟨ix, rfl, h1, h2⟩ := h
  exact ⟨ix, rfl, u.get h1 (fun h => h), fun t ht => ⟨(h2 t ht).1.new u, (h2 t ht).2.new u⟩⟩
theorem at75 {v : AV} {l : List Req} {i : Nat} (h : QH H v l) (hi : i < l.length) : indexAddrA Try.prog 75 v (.int .i64 i) ⟨H, S⟩ = some (idq v i) ∧ loadA Try.prog 72 (idq v i) ⟨H, S⟩ = some (.agg (l[i].1.cells l[i].2.1 l[i].2.2)) := by
  obtain ⟨ix, rfl, h1, h2⟩ := h
  have hr : ∀ o, getRow ⟨H, S⟩ ⟨0, ix, o⟩ = some ⟨72, 14, l.flatMap Req.cells, false, false⟩ := fun o => heap_row h1
  constructor
  · unfold indexAddrA
    simp only [ti75, ti72, hr]
    rw [if_pos ⟨by omega, by omega, by decide, trivial⟩]
    rfl
  · unfold idq loadA
    simp only [ti72, hr]
    show (if (0 + i * 14) % 14 + 14 ≤ 14 then some (AV.agg (List.take 14 (List.drop (0 + i * 14) (List.flatMap Req.cells l)))) else none) = _
    rw [if_pos (by omega), Nat.zero_add, chunk l i hi]
    rfl
theorem QH.get {v : AV} {l : List Req} {i : Nat} (h : QH H v l) (hi : i < l.length) : AskV H (.agg (l[i].1.cells l[i].2.1 l[i].2.2)) l[i].1 := by
  obtain ⟨ix, rfl, h1, h2⟩ := h
  exact ⟨_, _, rfl, h2 _ (List.getElem_mem hi)⟩
theorem fill_step {place : Nat → Option (Nat × Nat)} {cs : List AV} {i off size : Nat} {v : AV} {rest : List (Nat × AV)} (hp : place i = some (off, size)) (h1 : v.cells.length = size) (h2 : off + size ≤ cs.length) (h3 : v.cells.all AV.st = true) : fillA place cs ((i, v) :: rest) = fillA place (spl cs off v.cells) rest := by
  simp only [fillA, hp]; rw [if_pos ⟨h1, h2, h3⟩]
theorem spl_mid : ∀ (ys mid pre post : List AV), mid.length = ys.length → spl (pre ++ (mid ++ post)) pre.length ys = pre ++ (ys ++ post)
  | [], mid, pre, post, h => by
    have : mid = [] := List.eq_nil_of_length_eq_zero (by simpa using h)
    subst this; rfl
  | y :: ys, [], pre, post, h => by simp at h
  | y :: ys, c :: mid, pre, post, h => by
    rw [spl]
    have e : (pre ++ (c :: mid ++ post)).set pre.length y = (pre ++ [y]) ++ (mid ++ post) := by simp
    rw [e]
    have := spl_mid ys mid (pre ++ [y]) post (by simpa using h)
    simpa using this
theorem fill3 {n : Nat} {z a b c : List AV} (hz : z.length = n) (ha : a.length = n) (hb : b.length = n) (hc : c.length = n) (sa : a.all AV.st = true) (sb : b.all AV.st = true) (sc : c.all AV.st = true) :
    fillA (fun i => some (i * n, n)) (z ++ (z ++ z)) [(0, .agg a), (1, .agg b), (2, .agg c)] = some (a ++ (b ++ c)) := by
  rw [fill_step (v := .agg a) (off := 0 * n) (size := n) rfl ha (by simp [hz] <;> omega) sa]
  have e1 := spl_mid a z [] (z ++ z) (by rw [hz, ha])
  rw [show spl (z ++ (z ++ z)) (0 * n) (AV.agg a).cells = a ++ (z ++ z) from by rw [Nat.zero_mul]; exact e1]
  rw [fill_step (v := .agg b) (off := 1 * n) (size := n) rfl hb (by simp [hz, ha] <;> omega) sb]
  have e2 := spl_mid b z a z (by rw [hz, hb])
  rw [show spl (a ++ (z ++ z)) (1 * n) (AV.agg b).cells = a ++ (b ++ z) from by rw [Nat.one_mul, ← ha]; exact e2]
  rw [fill_step (v := .agg c) (off := 2 * n) (size := n) rfl hc (by simp [hz, ha, hb] <;> omega) sc]
  have e3 := spl_mid c z (a ++ b) [] (by rw [hz, hc])
  rw [show spl (a ++ (b ++ z)) (2 * n) (AV.agg c).cells = a ++ (b ++ c) from by
    have h2 : 2 * n = (a ++ b).length := by rw [List.length_append, ha, hb]; omega
    rw [h2]
    show spl (a ++ (b ++ z)) (a ++ b).length c = _
    simpa [List.append_assoc] using e3]
  rfl
theorem three75 {a b c : Req} (ha : a.cells.all AV.st = true) (hb : b.cells.all AV.st = true) (hc : c.cells.all AV.st = true) : buildSliceA Try.prog 75 true 3 [(0, .agg (a.1.cells a.2.1 a.2.2)), (1, .agg (b.1.cells b.2.1 b.2.2)), (2, .agg (c.1.cells c.2.1 c.2.2))] ⟨H, S⟩ = some (.sl ⟨0, H.length, 0⟩ 3 (some 3), ⟨H ++ [.row ⟨72, 14, [a, b, c].flatMap Req.cells, false, false⟩], S⟩) := by
  have e3 : [a, b, c].flatMap Req.cells = a.cells ++ b.cells ++ c.cells := by simp
  unfold buildSliceA
  simp only [ti75, ti72]
  have e1 : fillA (fun i => some (i * 14, 14)) (zeros (AV.agg (AskR.cells AskR.z .nilsl .nilsl)).cells 3) [(0, .agg (a.1.cells a.2.1 a.2.2)), (1, .agg (b.1.cells b.2.1 b.2.2)), (2, .agg (c.1.cells c.2.1 c.2.2))] = some ([a, b, c].flatMap Req.cells) := by
    rw [show zeros (AV.agg (AskR.cells AskR.z .nilsl .nilsl)).cells 3 = AskR.cells AskR.z .nilsl .nilsl ++ (AskR.cells AskR.z .nilsl .nilsl ++ AskR.cells AskR.z .nilsl .nilsl) from rfl, e3, List.append_assoc]
    exact fill3 (n := 14) (a := a.cells) (b := b.cells) (c := c.cells) rfl rfl rfl rfl ha hb hc
  rw [if_pos ⟨by decide, rfl, rfl⟩]
  erw [e1]
  simp only
  rw [if_pos ⟨by rw [chunks_len]; simp, by rw [chunks_len]; exact Nat.le_refl _, by rw [e3, List.all_append, List.all_append, ha, hb, hc]; rfl⟩]
  rfl
theorem odd_names {a : AskR} {w n : Int} {s : List UInt8} : (a.odd w n s).names = a.good.names ∨ (a.odd w n s).names = a.good.names ++ [s.take 300] := by
  unfold AskR.odd
  by_cases h0 : around w 13 = 0
  · exact .inl (by rw [if_pos h0])
  rw [if_neg h0]
  by_cases h1 : around w 13 = 1
  · exact .inl (by rw [if_pos h1])
  rw [if_neg h1]
  by_cases h2 : around w 13 = 2
  · exact .inl (by rw [if_pos h2])
  rw [if_neg h2]
  by_cases h3 : around w 13 = 3
  · exact .inl (by rw [if_pos h3])
  rw [if_neg h3]
  by_cases h4 : around w 13 = 4
  · exact .inl (by rw [if_pos h4])
  rw [if_neg h4]
  by_cases h5 : around w 13 = 5
  · exact .inl (by rw [if_pos h5])
  rw [if_neg h5]
  by_cases h6 : around w 13 = 6
  · exact .inl (by rw [if_pos h6])
  rw [if_neg h6]
  by_cases h7 : around w 13 = 7
  · exact .inl (by rw [if_pos h7])
  rw [if_neg h7]
  by_cases h8 : around w 13 = 8
  · exact .inl (by rw [if_pos h8])
  rw [if_neg h8]
  by_cases h9 : around w 13 = 9
  · exact .inl (by rw [if_pos h9])
  rw [if_neg h9]
  by_cases h10 : around w 13 = 10
  · exact .inl (by rw [if_pos h10])
  rw [if_neg h10]
  by_cases h11 : around w 13 = 11
  · exact .inl (by rw [if_pos h11])
  rw [if_neg h11]
  exact .inr rfl
theorem odd_short {a : AskR} {w n : Int} {s : List UInt8} : (a.odd w n s).names.length ≤ 9 := by
  have := good_short (a := a)
  rcases odd_names (a := a) (w := w) (n := n) (s := s) with h | h <;> rw [h]
  · omega
  · rw [List.length_append, List.length_singleton]; omega
theorem askSame {a b : AskR} {vn vd wn wd : AV} {w n : Int} {s : List UInt8} (hn : TH H vn a.names) (hd : BH H vd a.data) (hn2 : TH H wn b.names) (hd2 : BH H wd b.data) (g : a.Rng) (g2 : b.Rng) (hw : -9223372036854775808 ≤ w ∧ w < 9223372036854775808) : AC Try.prog 10 [.agg (a.cells vn vd), .agg (b.cells wn wd), .int .i64 w, .int .i64 n, .str s] ⟨H, S⟩ (fun v M' => v = .bool true) := by
  refine AC_of_WE Try.func10 rfl ?_
  simp only [Try.ntmps10, List.length_cons, List.length_nil, List.replicate, List.cons_append, List.nil_append, mem_enter]
  have c1 := cells_st (a := a) hn hd
  have c2 := cells_st (a := b) hn2 hd2
  (repeat refine W_seq ?_); refine W_regionT [] ?_
  simp only [go_sem, kboxL c1, kboxL c2, List.nil_append, List.cons_append, List.length_nil, List.length_cons, Nat.zero_add, Nat.reduceAdd]
  (repeat refine W_seq ?_); refine W_regionD [23] [1, 3, 8, 9] [0, 2, 4, 5, 6, 7, 1, 3, 8, 9, 10] [0, 1, 0, 7, 0, 0, 0, 0, 255, 511, 1023] mixedM (by kernel_rfl) (by kernel_rfl) (by kernel_rfl) ?_
  simp only [listed, go_sem]
  refine AD_read (v := .agg (a.cells vn vd)) (fun M' => M'.get (S.length + 1) 0 = some (Block.row ⟨72, 14, AskR.cells a vn vd, false, false⟩)) rfl rfl (fun M' h => by show pureV (loadA Try.prog 72 (.ptr ⟨S.length + 1, 0, 0⟩) M') M' = _; rw [kL h]; rfl) (gt0) ?_
  simp only [go_sem]
  refine AD_read (v := .agg (b.cells wn wd)) (fun M' => M'.get (S.length + 1) 1 = some (Block.row ⟨72, 14, AskR.cells b wn wd, false, false⟩)) rfl rfl (fun M' h => by show pureV (loadA Try.prog 72 (.ptr ⟨S.length + 1, 1, 0⟩) M') M' = _; rw [kL h]; rfl) (gt1) ?_
  simp only [go_sem]
  refine AD_read (v := .agg (a.cells vn vd)) (fun M' => M'.get (S.length + 1) 0 = some (Block.row ⟨72, 14, AskR.cells a vn vd, false, false⟩)) rfl rfl (fun M' h => by show pureV (loadA Try.prog 72 (.ptr ⟨S.length + 1, 0, 0⟩) M') M' = _; rw [kL h]; rfl) (gt0) ?_
  simp only [go_sem]
  refine AD_call rfl rfl rfl (good51 hn hd g) fun v M1 hd1 h1 => ?_
  obtain ⟨G1, rfl, u1, on1, od1, rfl, p1, q1, _⟩ := h1
  refine ⟨⟨fun _ => gt0, fun _ => gt1, fun _ => gt0, trivial⟩, ?_⟩
  simp only [go_sem]
  refine AD_call rfl rfl rfl (good51 (hn2.new u1) (hd2.new u1) g2) fun v M1 hd1 h1 => ?_
  obtain ⟨G2, rfl, u2, on2, od2, rfl, p2, q2, _⟩ := h1
  refine ⟨⟨fun _ => gt0, fun _ => gt1, fun _ => gt0, trivial⟩, ?_⟩
  simp only [go_sem]
  refine AD_call rfl rfl rfl (odd52 ((hn.new u1).new u2) ((hd.new u1).new u2) g hw) fun v M1 hd1 h1 => ?_
  obtain ⟨G3, rfl, u3, on3, od3, rfl, p3, q3, _⟩ := h1
  refine ⟨⟨fun _ => gt0, fun _ => gt1, fun _ => gt0, trivial⟩, ?_⟩
  simp only [go_sem]
  refine AD_loud (v := .sl ⟨0, G3.length, 0⟩ 3 (some 3)) (M' := ⟨G3 ++ [Block.row ⟨72, 14, [((a.good, on1, od1) : Req), (b.good, on2, od2), (a.odd w n s, on3, od3)].flatMap Req.cells, false, false⟩], [Block.row ⟨72, 14, AskR.cells a vn vd, false, false⟩, Block.row ⟨72, 14, AskR.cells b wn wd, false, false⟩] :: S⟩) rfl (three75 (a := (a.good, on1, od1)) (b := (b.good, on2, od2)) (c := (a.odd w n s, on3, od3)) (cells_st2 _ (OH1 p1).1 q1.one.1) (cells_st2 _ (OH1 p2).1 q2.one.1) (cells_st2 _ (OH1 p3).1 q3.one.1)) ⟨fun ha => absurd (ha.symm.trans (show ancB _ _ _ _ = true by kernel_rfl)) (by decide), fun ha => absurd (ha.symm.trans (show ancB _ _ _ _ = true by kernel_rfl)) (by decide), fun ha => absurd (ha.symm.trans (show ancB _ _ _ _ = true by kernel_rfl)) (by decide), trivial⟩ ?_
  simp only [go_sem]
  have hq : QH (G3 ++ [Block.row ⟨72, 14, [((a.good, on1, od1) : Req), (b.good, on2, od2), (a.odd w n s, on3, od3)].flatMap Req.cells, false, false⟩]) (.sl ⟨0, G3.length, 0⟩ 3 (some 3)) [((a.good, on1, od1) : Req), (b.good, on2, od2), (a.odd w n s, on3, od3)] := by
    refine ⟨G3.length, rfl, List.getElem?_concat_length .., fun t ht => ?_⟩
    simp only [List.mem_cons, List.not_mem_nil, or_false] at ht
    rcases ht with rfl | rfl | rfl
    · exact ⟨(((p1.new u2).new u3).new UpdH.push).rh, ((q1.new u2).new u3).new UpdH.push⟩
    · exact ⟨((p2.new u3).new UpdH.push).rh, (q2.new u3).new UpdH.push⟩
    · exact ⟨(p3.new UpdH.push).rh, q3.new UpdH.push⟩
  have hlen : ∀ t ∈ [((a.good, on1, od1) : Req), (b.good, on2, od2), (a.odd w n s, on3, od3)], t.1.names.length < 1000000 := by
    intro t ht
    simp only [List.mem_cons, List.not_mem_nil, or_false] at ht
    have := good_short (a := a)
    have := good_short (a := b)
    rcases ht with rfl | rfl | rfl
    · show a.good.names.length < _; omega
    · show b.good.names.length < _; omega
    · have := odd_short (a := a) (w := w) (n := n) (s := s)
      show (a.odd w n s).names.length < _; omega
  have hal : [((a.good, on1, od1) : Req), (b.good, on2, od2), (a.odd w n s, on3, od3)].length = 3 := rfl
  generalize [((a.good, on1, od1) : Req), (b.good, on2, od2), (a.odd w n s, on3, od3)] = all at hq hlen hal ⊢
  generalize (AV.sl ⟨0, G3.length, 0⟩ 3 (some 3)) = v at hq ⊢
  generalize G3 ++ [Block.row ⟨72, 14, all.flatMap Req.cells, false, false⟩] = G at hq ⊢
  (repeat refine W_seq ?_); refine W_regionT [] ?_
  simp only [go_sem]
  (repeat refine W_seq ?_)
  refine W_block (W_loop (L_inv (fun j env M' => ∃ (x0 x1 x2 x3 x4 x5 x6 x7 x8 x9 x10 x13 x14 x15 x16 x17 x18 x19 x20 x21 x22 x23 x24 x25 x26 x27 x28 x29 x30 x31 x32 x33 x34 x35 x36 x37 x38 x39 x40 x41 x42 x43 x44 x45 x46 x47 x48 x49 x50 x51 : AV) (i : Nat), env = [x0, x1, x2, x3, x4, x5, x6, x7, x8, x9, x10, v, .int .i64 i, x13, x14, x15, x16, x17, x18, x19, x20, x21, x22, x23, x24, x25, x26, x27, x28, x29, x30, x31, x32, x33, x34, x35, x36, x37, x38, x39, x40, x41, x42, x43, x44, x45, x46, x47, x48, x49, x50, x51] ∧ i + j = 3 ∧ M' = ⟨G, [Block.row ⟨72, 14, AskR.cells a vn vd, false, false⟩, Block.row ⟨72, 14, AskR.cells b wn wd, false, false⟩] :: S⟩) (fun j env M2 => ?_) (3) ?_))
  case refine_2 => exact ⟨_, _, _, _, _, _, _, _, _, _, _, _, _, _, _, _, _, _, _, _, _, _, _, _, _, _, _, _, _, _, _, _, _, _, _, _, _, _, _, _, _, _, _, _, _, _, _, _, _, _, 0, rfl, rfl, rfl⟩
  refine exE fun x0 => exE fun x1 => exE fun x2 => exE fun x3 => exE fun x4 => exE fun x5 => exE fun x6 => exE fun x7 => exE fun x8 => exE fun x9 => exE fun x10 => exE fun x13 => exE fun x14 => exE fun x15 => exE fun x16 => exE fun x17 => exE fun x18 => exE fun x19 => exE fun x20 => exE fun x21 => exE fun x22 => exE fun x23 => exE fun x24 => exE fun x25 => exE fun x26 => exE fun x27 => exE fun x28 => exE fun x29 => exE fun x30 => exE fun x31 => exE fun x32 => exE fun x33 => exE fun x34 => exE fun x35 => exE fun x36 => exE fun x37 => exE fun x38 => exE fun x39 => exE fun x40 => exE fun x41 => exE fun x42 => exE fun x43 => exE fun x44 => exE fun x45 => exE fun x46 => exE fun x47 => exE fun x48 => exE fun x49 => exE fun x50 => exE fun x51 => ?_
  rintro ⟨i, rfl, hij, rfl⟩
  (repeat refine W_seq ?_); refine W_regionT [] ?_
  simp only [go_sem]
  (repeat refine W_seq ?_)
  refine W_cond_if rfl (fun hb => ?_) (fun hb => ?_)
  · have hi3 : i < 3 := by simp at hb; omega
    refine W_skip ?_
    simp only [go_sem]
    (repeat refine W_seq ?_)
    refine W_block ?_
    (repeat refine W_seq ?_); refine W_regionT [] ?_
    simp only [go_sem]
    (repeat refine W_seq ?_)
    refine W_block (W_loop (L_inv (fun j2 env M' => ∃ (y0 y1 y2 y3 y4 y5 y6 y7 y8 y9 y10 y14 y15 y16 y17 y18 y19 y20 y21 y22 y23 y24 y25 y26 y27 y28 y29 y30 y31 y32 y33 y34 y35 y36 y37 y38 y39 y40 y41 y42 y43 y44 y45 y46 y47 y48 y49 y50 y51 : AV) (k : Nat), env = [y0, y1, y2, y3, y4, y5, y6, y7, y8, y9, y10, v, .int .i64 i, .int .i64 k, y14, y15, y16, y17, y18, y19, y20, y21, y22, y23, y24, y25, y26, y27, y28, y29, y30, y31, y32, y33, y34, y35, y36, y37, y38, y39, y40, y41, y42, y43, y44, y45, y46, y47, y48, y49, y50, y51] ∧ k + j2 = 3 ∧ M' = ⟨G, [Block.row ⟨72, 14, AskR.cells a vn vd, false, false⟩, Block.row ⟨72, 14, AskR.cells b wn wd, false, false⟩] :: S⟩) (fun j2 env M2 => ?_) (3) ?_))
    case refine_2 => exact ⟨_, _, _, _, _, _, _, _, _, _, _, _, _, _, _, _, _, _, _, _, _, _, _, _, _, _, _, _, _, _, _, _, _, _, _, _, _, _, _, _, _, _, _, _, _, _, _, _, _, 0, rfl, rfl, rfl⟩
    refine exE fun y0 => exE fun y1 => exE fun y2 => exE fun y3 => exE fun y4 => exE fun y5 => exE fun y6 => exE fun y7 => exE fun y8 => exE fun y9 => exE fun y10 => exE fun y14 => exE fun y15 => exE fun y16 => exE fun y17 => exE fun y18 => exE fun y19 => exE fun y20 => exE fun y21 => exE fun y22 => exE fun y23 => exE fun y24 => exE fun y25 => exE fun y26 => exE fun y27 => exE fun y28 => exE fun y29 => exE fun y30 => exE fun y31 => exE fun y32 => exE fun y33 => exE fun y34 => exE fun y35 => exE fun y36 => exE fun y37 => exE fun y38 => exE fun y39 => exE fun y40 => exE fun y41 => exE fun y42 => exE fun y43 => exE fun y44 => exE fun y45 => exE fun y46 => exE fun y47 => exE fun y48 => exE fun y49 => exE fun y50 => exE fun y51 => ?_
    rintro ⟨k, rfl, hkj, rfl⟩
    (repeat refine W_seq ?_); refine W_regionT [] ?_
    simp only [go_sem]
    (repeat refine W_seq ?_)
    refine W_cond_if rfl (fun hb => ?_) (fun hb => ?_)
    · have hk3 : k < 3 := by simp at hb; omega
      refine W_skip ?_
      simp only [go_sem]
      (repeat refine W_seq ?_)
      refine W_block ?_
      have hi : i < all.length := by omega
      have hk : k < all.length := by omega
      (repeat refine W_seq ?_); refine W_regionD [] [8, 17] [0, 1, 2, 3, 4, 5, 6, 7, 9, 10, 11, 12, 13, 14, 15, 16, 8, 17, 18] [0, 0, 3, 7, 0, 0, 48, 112, 255, 0, 0, 1536, 3584, 0, 0, 24576, 57344, 131071, 262143] mixedM (by kernel_rfl) (by kernel_rfl) (by kernel_rfl) ?_
      simp only [listed, go_sem]
      refine AD_read (v := idq v i) (fun M' => indexAddrA Try.prog 75 v (.int .i64 i) M' = some (idq v i) ∧ loadA Try.prog 72 (idq v i) M' = some (.agg (all[i].1.cells all[i].2.1 all[i].2.2))) rfl rfl (fun M' h => by show pureV (indexAddrA Try.prog 75 v (.int .i64 i) M') M' = _; rw [h.1]; rfl) (at75 hq hi) ?_
      simp only [go_sem]
      refine AD_read (v := .agg (all[i].1.cells all[i].2.1 all[i].2.2)) (fun M' => indexAddrA Try.prog 75 v (.int .i64 i) M' = some (idq v i) ∧ loadA Try.prog 72 (idq v i) M' = some (.agg (all[i].1.cells all[i].2.1 all[i].2.2))) rfl rfl (fun M' h => by show pureV (loadA Try.prog 72 (idq v i) M') M' = _; rw [h.2]; rfl) (at75 hq hi) ?_
      simp only [go_sem]
      refine AD_read (v := idq v k) (fun M' => indexAddrA Try.prog 75 v (.int .i64 k) M' = some (idq v k) ∧ loadA Try.prog 72 (idq v k) M' = some (.agg (all[k].1.cells all[k].2.1 all[k].2.2))) rfl rfl (fun M' h => by show pureV (indexAddrA Try.prog 75 v (.int .i64 k) M') M' = _; rw [h.1]; rfl) (at75 hq hk) ?_
      simp only [go_sem]
      refine AD_read (v := .agg (all[k].1.cells all[k].2.1 all[k].2.2)) (fun M' => indexAddrA Try.prog 75 v (.int .i64 k) M' = some (idq v k) ∧ loadA Try.prog 72 (idq v k) M' = some (.agg (all[k].1.cells all[k].2.1 all[k].2.2))) rfl rfl (fun M' h => by show pureV (loadA Try.prog 72 (idq v k) M') M' = _; rw [h.2]; rfl) (at75 hq hk) ?_
      simp only [go_sem]
      refine AD_read (v := idq v i) (fun M' => indexAddrA Try.prog 75 v (.int .i64 i) M' = some (idq v i) ∧ loadA Try.prog 72 (idq v i) M' = some (.agg (all[i].1.cells all[i].2.1 all[i].2.2))) rfl rfl (fun M' h => by show pureV (indexAddrA Try.prog 75 v (.int .i64 i) M') M' = _; rw [h.1]; rfl) (at75 hq hi) ?_
      simp only [go_sem]
      refine AD_read (v := .agg (all[i].1.cells all[i].2.1 all[i].2.2)) (fun M' => indexAddrA Try.prog 75 v (.int .i64 i) M' = some (idq v i) ∧ loadA Try.prog 72 (idq v i) M' = some (.agg (all[i].1.cells all[i].2.1 all[i].2.2))) rfl rfl (fun M' h => by show pureV (loadA Try.prog 72 (idq v i) M') M' = _; rw [h.2]; rfl) (at75 hq hi) ?_
      simp only [go_sem]
      refine AD_read (v := idq v k) (fun M' => indexAddrA Try.prog 75 v (.int .i64 k) M' = some (idq v k) ∧ loadA Try.prog 72 (idq v k) M' = some (.agg (all[k].1.cells all[k].2.1 all[k].2.2))) rfl rfl (fun M' h => by show pureV (indexAddrA Try.prog 75 v (.int .i64 k) M') M' = _; rw [h.1]; rfl) (at75 hq hk) ?_
      simp only [go_sem]
      refine AD_read (v := .agg (all[k].1.cells all[k].2.1 all[k].2.2)) (fun M' => indexAddrA Try.prog 75 v (.int .i64 k) M' = some (idq v k) ∧ loadA Try.prog 72 (idq v k) M' = some (.agg (all[k].1.cells all[k].2.1 all[k].2.2))) rfl rfl (fun M' h => by show pureV (loadA Try.prog 72 (idq v k) M') M' = _; rw [h.2]; rfl) (at75 hq hk) ?_
      simp only [go_sem]
      refine AD_call rfl rfl rfl (same58 (hq.get hi) (hq.get hk) (hlen _ (List.getElem_mem hi))) fun v M1 hd1 h1 => ?_
      obtain ⟨hv, hM⟩ := h1; subst hv; subst hM
      refine ⟨⟨fun _ => at75 hq hk, fun _ => at75 hq hk, fun _ => at75 hq hi, fun _ => at75 hq hi, fun _ => at75 hq hk, fun _ => at75 hq hk, fun _ => at75 hq hi, fun _ => at75 hq hi, trivial⟩, ?_⟩
      simp only [go_sem]
      refine AD_call rfl rfl rfl (same59 (hq.get hi) (hq.get hk) (hlen _ (List.getElem_mem hi))) fun v M1 hd1 h1 => ?_
      obtain ⟨hv, hM⟩ := h1; subst hv; subst hM
      refine ⟨⟨fun _ => at75 hq hk, fun _ => at75 hq hk, fun _ => at75 hq hi, fun _ => at75 hq hi, fun _ => at75 hq hk, fun _ => at75 hq hk, fun _ => at75 hq hi, fun _ => at75 hq hi, trivial⟩, ?_⟩
      simp only [go_sem, ne_bool ti4 rfl, beq_self_eq_true, Bool.not_true]
      (repeat refine W_seq ?_)
      refine W_cond (b := false) rfl ?_
      simp only [Bool.false_eq_true, if_false]
      refine W_skip ?_
      simp only [go_sem]
      (repeat refine W_seq ?_); refine W_regionT [] ?_
      simp only [go_sem, show (k : Int) + 1 = ((k + 1 : Nat) : Int) from rfl, wrap_i64 (n := ((k + 1 : Nat) : Int)) (by omega) (by omega)]
      refine ⟨j2 - 1, by omega, _, _, _, _, _, _, _, _, _, _, _, _, _, _, _, _, _, _, _, _, _, _, _, _, _, _, _, _, _, _, _, _, _, _, _, _, _, _, _, _, _, _, _, _, _, _, _, _, _, k + 1, rfl, by omega, trivial⟩
    · (repeat refine W_seq ?_)
      refine W_exit ?_
      simp only [go_sem]
      (repeat refine W_seq ?_); refine W_regionT [] ?_
      simp only [go_sem, show (i : Int) + 1 = ((i + 1 : Nat) : Int) from rfl, wrap_i64 (n := ((i + 1 : Nat) : Int)) (by omega) (by omega)]
      refine ⟨j - 1, by omega, _, _, _, _, _, _, _, _, _, _, _, _, _, _, _, _, _, _, _, _, _, _, _, _, _, _, _, _, _, _, _, _, _, _, _, _, _, _, _, _, _, _, _, _, _, _, _, _, _, _, i + 1, rfl, by omega, trivial⟩
  · (repeat refine W_seq ?_)
    refine W_exit ?_
    simp only [go_sem]
    (repeat refine W_seq ?_); refine W_regionT [] ?_
    simp only [go_sem]
    refine AT_call rfl rfl (lives57) fun v M1 hd1 h1 => ?_
    obtain ⟨hv, hM⟩ := h1; subst hv; subst hM
    simp only [go_sem]
    exact W_ret ⟨.inr rfl, _, rfl, rfl, rfl⟩
end
end Go.Proofs.Ytlpcbfndjffpfaa
