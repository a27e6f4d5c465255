/- The walk of the reference's Fields, has, Own, Good (18), and of the law's few and odd. -/
import Derived.Test.YtlpcbfndjffpfaaTells3
set_option maxRecDepth 100000
set_option maxHeartbeats 4000000
set_option linter.unusedSimpArgs false
set_option linter.unusedVariables false
namespace Go.Proofs.Ytlpcbfndjffpfaa
open Go.Abs
def tfieldsOf (k : Int) : List UInt8 := if k = 101 then [122, 110] else if k = 105 then [113] else if k = 107 then [101] else if k = 109 then [45] else if k = 111 then [108] else if k = 113 then [113, 105] else if k = 115 then [113, 105] else if k = 117 then [100] else if k = 119 then [99] else if k = 121 then [45] else if k = 123 then [45] else if k = 125 then [115] else if k = 127 then [45] else []
def thas (k : Int) (f : UInt8) : Bool := (tfieldsOf k).any (· == f)
def kinds13 : List Int := [101, 105, 107, 109, 111, 113, 115, 117, 119, 121, 123, 125, 127]
def texts13 : List (List UInt8) := [[122, 110], [113], [101], [45], [108], [113, 105], [113, 105], [100], [99], [45], [45], [115], [45]]
theorem tfields_at {i : Nat} (h : i < 13) : tfieldsOf (kinds13.getD i 0) = texts13.getD i [] := by
  have h2 : ∀ i : Fin 13, tfieldsOf (kinds13.getD i.1 0) = texts13.getD i.1 [] := by decide
  exact h2 ⟨i, h⟩
theorem tfields_no {k : Int} (h101 : ¬ k = 101) (h105 : ¬ k = 105) (h107 : ¬ k = 107) (h109 : ¬ k = 109) (h111 : ¬ k = 111) (h113 : ¬ k = 113) (h115 : ¬ k = 115) (h117 : ¬ k = 117) (h119 : ¬ k = 119) (h121 : ¬ k = 121) (h123 : ¬ k = 123) (h125 : ¬ k = 125) (h127 : ¬ k = 127) : tfieldsOf k = [] := by unfold tfieldsOf; simp [h101, h105, h107, h109, h111, h113, h115, h117, h119, h121, h123, h125, h127]
theorem tkind_no {n : Int} (h101 : ¬ n = 101) (h105 : ¬ n = 105) (h107 : ¬ n = 107) (h109 : ¬ n = 109) (h111 : ¬ n = 111) (h113 : ¬ n = 113) (h115 : ¬ n = 115) (h117 : ¬ n = 117) (h119 : ¬ n = 119) (h121 : ¬ n = 121) (h123 : ¬ n = 123) (h125 : ¬ n = 125) (h127 : ¬ n = 127) : tkind n = 0 := by unfold tkind; simp [h101, h105, h107, h109, h111, h113, h115, h117, h119, h121, h123, h125, h127]
theorem tfields_short {k : Int} : (tfieldsOf k).length ≤ 2 := by
  by_cases hk : k = 101 ∨ k = 105 ∨ k = 107 ∨ k = 109 ∨ k = 111 ∨ k = 113 ∨ k = 115 ∨ k = 117 ∨ k = 119 ∨ k = 121 ∨ k = 123 ∨ k = 125 ∨ k = 127
  · rcases hk with rfl | rfl | rfl | rfl | rfl | rfl | rfl | rfl | rfl | rfl | rfl | rfl | rfl <;> decide
  · simp only [not_or] at hk
    obtain ⟨h101, h105, h107, h109, h111, h113, h115, h117, h119, h121, h123, h125, h127⟩ := hk
    rw [tfields_no h101 h105 h107 h109 h111 h113 h115 h117 h119 h121 h123 h125 h127]; decide
theorem thas_z {n : Int} : thas n 122 = decide (tkind n = 2) := by
  by_cases hk : n = 101 ∨ n = 105 ∨ n = 107 ∨ n = 109 ∨ n = 111 ∨ n = 113 ∨ n = 115 ∨ n = 117 ∨ n = 119 ∨ n = 121 ∨ n = 123 ∨ n = 125 ∨ n = 127
  · rcases hk with rfl | rfl | rfl | rfl | rfl | rfl | rfl | rfl | rfl | rfl | rfl | rfl | rfl <;> rfl
  · simp only [not_or] at hk
    obtain ⟨h101, h105, h107, h109, h111, h113, h115, h117, h119, h121, h123, h125, h127⟩ := hk
    unfold thas
    rw [tfields_no h101 h105 h107 h109 h111 h113 h115 h117 h119 h121 h123 h125 h127, tkind_no h101 h105 h107 h109 h111 h113 h115 h117 h119 h121 h123 h125 h127]
    rfl
theorem thas_q {n : Int} : thas n 113 = decide (tkind n = 3 ∨ tkind n = 6) := by
  by_cases hk : n = 101 ∨ n = 105 ∨ n = 107 ∨ n = 109 ∨ n = 111 ∨ n = 113 ∨ n = 115 ∨ n = 117 ∨ n = 119 ∨ n = 121 ∨ n = 123 ∨ n = 125 ∨ n = 127
  · rcases hk with rfl | rfl | rfl | rfl | rfl | rfl | rfl | rfl | rfl | rfl | rfl | rfl | rfl <;> rfl
  · simp only [not_or] at hk
    obtain ⟨h101, h105, h107, h109, h111, h113, h115, h117, h119, h121, h123, h125, h127⟩ := hk
    unfold thas
    rw [tfields_no h101 h105 h107 h109 h111 h113 h115 h117 h119 h121 h123 h125 h127, tkind_no h101 h105 h107 h109 h111 h113 h115 h117 h119 h121 h123 h125 h127]
    rfl
theorem thas_e {n : Int} : thas n 101 = decide (tkind n = 4) := by
  by_cases hk : n = 101 ∨ n = 105 ∨ n = 107 ∨ n = 109 ∨ n = 111 ∨ n = 113 ∨ n = 115 ∨ n = 117 ∨ n = 119 ∨ n = 121 ∨ n = 123 ∨ n = 125 ∨ n = 127
  · rcases hk with rfl | rfl | rfl | rfl | rfl | rfl | rfl | rfl | rfl | rfl | rfl | rfl | rfl <;> rfl
  · simp only [not_or] at hk
    obtain ⟨h101, h105, h107, h109, h111, h113, h115, h117, h119, h121, h123, h125, h127⟩ := hk
    unfold thas
    rw [tfields_no h101 h105 h107 h109 h111 h113 h115 h117 h119 h121 h123 h125 h127, tkind_no h101 h105 h107 h109 h111 h113 h115 h117 h119 h121 h123 h125 h127]
    rfl
theorem thas_l {n : Int} : thas n 108 = decide (tkind n = 5) := by
  by_cases hk : n = 101 ∨ n = 105 ∨ n = 107 ∨ n = 109 ∨ n = 111 ∨ n = 113 ∨ n = 115 ∨ n = 117 ∨ n = 119 ∨ n = 121 ∨ n = 123 ∨ n = 125 ∨ n = 127
  · rcases hk with rfl | rfl | rfl | rfl | rfl | rfl | rfl | rfl | rfl | rfl | rfl | rfl | rfl <;> rfl
  · simp only [not_or] at hk
    obtain ⟨h101, h105, h107, h109, h111, h113, h115, h117, h119, h121, h123, h125, h127⟩ := hk
    unfold thas
    rw [tfields_no h101 h105 h107 h109 h111 h113 h115 h117 h119 h121 h123 h125 h127, tkind_no h101 h105 h107 h109 h111 h113 h115 h117 h119 h121 h123 h125 h127]
    rfl
theorem thas_i {n : Int} : thas n 105 = decide (tkind n = 6) := by
  by_cases hk : n = 101 ∨ n = 105 ∨ n = 107 ∨ n = 109 ∨ n = 111 ∨ n = 113 ∨ n = 115 ∨ n = 117 ∨ n = 119 ∨ n = 121 ∨ n = 123 ∨ n = 125 ∨ n = 127
  · rcases hk with rfl | rfl | rfl | rfl | rfl | rfl | rfl | rfl | rfl | rfl | rfl | rfl | rfl <;> rfl
  · simp only [not_or] at hk
    obtain ⟨h101, h105, h107, h109, h111, h113, h115, h117, h119, h121, h123, h125, h127⟩ := hk
    unfold thas
    rw [tfields_no h101 h105 h107 h109 h111 h113 h115 h117 h119 h121 h123 h125 h127, tkind_no h101 h105 h107 h109 h111 h113 h115 h117 h119 h121 h123 h125 h127]
    rfl
theorem thas_d {n : Int} : thas n 100 = decide (tkind n = 7) := by
  by_cases hk : n = 101 ∨ n = 105 ∨ n = 107 ∨ n = 109 ∨ n = 111 ∨ n = 113 ∨ n = 115 ∨ n = 117 ∨ n = 119 ∨ n = 121 ∨ n = 123 ∨ n = 125 ∨ n = 127
  · rcases hk with rfl | rfl | rfl | rfl | rfl | rfl | rfl | rfl | rfl | rfl | rfl | rfl | rfl <;> rfl
  · simp only [not_or] at hk
    obtain ⟨h101, h105, h107, h109, h111, h113, h115, h117, h119, h121, h123, h125, h127⟩ := hk
    unfold thas
    rw [tfields_no h101 h105 h107 h109 h111 h113 h115 h117 h119 h121 h123 h125 h127, tkind_no h101 h105 h107 h109 h111 h113 h115 h117 h119 h121 h123 h125 h127]
    rfl
theorem thas_c {n : Int} : thas n 99 = decide (tkind n = 8) := by
  by_cases hk : n = 101 ∨ n = 105 ∨ n = 107 ∨ n = 109 ∨ n = 111 ∨ n = 113 ∨ n = 115 ∨ n = 117 ∨ n = 119 ∨ n = 121 ∨ n = 123 ∨ n = 125 ∨ n = 127
  · rcases hk with rfl | rfl | rfl | rfl | rfl | rfl | rfl | rfl | rfl | rfl | rfl | rfl | rfl <;> rfl
  · simp only [not_or] at hk
    obtain ⟨h101, h105, h107, h109, h111, h113, h115, h117, h119, h121, h123, h125, h127⟩ := hk
    unfold thas
    rw [tfields_no h101 h105 h107 h109 h111 h113 h115 h117 h119 h121 h123 h125 h127, tkind_no h101 h105 h107 h109 h111 h113 h115 h117 h119 h121 h123 h125 h127]
    rfl
theorem thas_s {n : Int} : thas n 115 = decide (tkind n = 9) := by
  by_cases hk : n = 101 ∨ n = 105 ∨ n = 107 ∨ n = 109 ∨ n = 111 ∨ n = 113 ∨ n = 115 ∨ n = 117 ∨ n = 119 ∨ n = 121 ∨ n = 123 ∨ n = 125 ∨ n = 127
  · rcases hk with rfl | rfl | rfl | rfl | rfl | rfl | rfl | rfl | rfl | rfl | rfl | rfl | rfl <;> rfl
  · simp only [not_or] at hk
    obtain ⟨h101, h105, h107, h109, h111, h113, h115, h117, h119, h121, h123, h125, h127⟩ := hk
    unfold thas
    rw [tfields_no h101 h105 h107 h109 h111 h113 h115 h117 h119 h121 h123 h125 h127, tkind_no h101 h105 h107 h109 h111 h113 h115 h117 h119 h121 h123 h125 h127]
    rfl
structure TellR.Rng (a : TellR) : Prop where
  ty : -9223372036854775808 ≤ a.ty ∧ a.ty < 9223372036854775808
  tag : -9223372036854775808 ≤ a.tag ∧ a.tag < 9223372036854775808
  code : -9223372036854775808 ≤ a.code ∧ a.code < 9223372036854775808
  msize : -9223372036854775808 ≤ a.msize ∧ a.msize < 9223372036854775808
  iounit : -9223372036854775808 ≤ a.iounit ∧ a.iounit < 9223372036854775808
  count : -9223372036854775808 ≤ a.count ∧ a.count < 9223372036854775808
  q_ver : -9223372036854775808 ≤ a.q.ver ∧ a.q.ver < 9223372036854775808
  q_path : -9223372036854775808 ≤ a.q.path ∧ a.q.path < 9223372036854775808
  s_q_ver : -9223372036854775808 ≤ a.s.q.ver ∧ a.s.q.ver < 9223372036854775808
  s_q_path : -9223372036854775808 ≤ a.s.q.path ∧ a.s.q.path < 9223372036854775808
  s_mode : -9223372036854775808 ≤ a.s.mode ∧ a.s.mode < 9223372036854775808
  s_size : -9223372036854775808 ≤ a.s.size ∧ a.s.size < 9223372036854775808
  qids : ∀ q ∈ a.qids, (-9223372036854775808 ≤ q.ver ∧ q.ver < 9223372036854775808) ∧ (-9223372036854775808 ≤ q.path ∧ q.path < 9223372036854775808)
def QidR.good (q : QidR) : QidR := ⟨q.dir, around q.ver 4294967296, around q.path 4611686018427387905⟩
def tkindOf (n : Int) : Int := kinds13.getD (around n 13).toNat 0
def TellR.raw (a : TellR) : TellR := ⟨tkindOf a.ty, around a.tag 65536, around a.code 65536, around a.msize 4294967296, around a.iounit 4294967296, around a.count 4294967296, a.name.take 40, a.q.good, (a.qids.take 8).map QidR.good, a.data.take 30, ⟨a.s.q.good, around a.s.mode 4294967296, around a.s.size 4611686018427387905, a.s.name.take 40⟩⟩
def TellR.good (a : TellR) : TellR := a.raw.own
def TellR.odd (a : TellR) (w n : Int) (s : List UInt8) : TellR := if around w 14 = 0 then { a.good with ty := n } else if around w 14 = 1 then { a.good with tag := n } else if around w 14 = 2 then { a.good with code := n } else if around w 14 = 3 then { a.good with msize := n } else if around w 14 = 4 then { a.good with iounit := n } else if around w 14 = 5 then { a.good with count := n } else if around w 14 = 6 then { a.good with name := s.take 300 } else if around w 14 = 7 then { a.good with q.ver := n } else if around w 14 = 8 then { a.good with q.path := n } else if around w 14 = 9 then { a.good with s.mode := n } else if around w 14 = 10 then { a.good with s.size := n } else if around w 14 = 11 then { a.good with s.name := s.take 300 } else if around w 14 = 12 then { a.good with s.q.path := n } else { a.good with qids := a.good.qids ++ [⟨false, n, 0⟩] }
def TellR.few (a : TellR) : TellR := { a with name := a.name.take 300, s := { a.s with name := a.s.name.take 300 }, qids := a.qids.take 10, data := a.data.take 40 }
def TellO (H : List Block) (n : Nat) (x : AV) (b : TellR) : Prop := ∃ vn vd, x = .agg (b.cells vn vd) ∧ OH H vn 85 3 (b.qids.flatMap QidR.cells) b.qids.length ∧ BH H vd b.data ∧ (∀ k, vn.loc k → n ≤ k) ∧ (∀ k, vd.loc k → n ≤ k) ∧ ∀ k, vn.loc k → ¬ vd.loc k
section
variable {H H' : List Block} {S : List (List Block)} {F : List Block} {M' : Mem}
theorem oh_ql {v : AV} {l : List QidR} (h : OH H v 85 3 (l.flatMap QidR.cells) l.length) : QL H v l := ⟨h.rh, by rcases h with ⟨rfl, _⟩ | ⟨ix, c, mv, rfl, _⟩ <;> rfl⟩
theorem TellO.v {n : Nat} {x : AV} {b : TellR} (h : TellO H n x b) : TellV H x b := by
  obtain ⟨vn, vd, rfl, h1, h2, _⟩ := h
  exact ⟨vn, vd, rfl, oh_ql h1, h2⟩
theorem TellR.own_oh {a : TellR} {vn : AV} (h : OH H vn 85 3 (a.qids.flatMap QidR.cells) a.qids.length) : OH H (a.ownN vn) 85 3 (a.own.qids.flatMap QidR.cells) a.own.qids.length := by
  show OH H (if tkind a.ty = 5 then vn else .nilsl) 85 3 ((if tkind a.ty = 5 then a.qids else []).flatMap QidR.cells) (if tkind a.ty = 5 then a.qids else []).length
  split
  · exact h
  · exact OH.nil
theorem TellR.ownN_loc {a : TellR} {vn : AV} {k : Nat} (h : (a.ownN vn).loc k) : vn.loc k := by
  unfold TellR.ownN at h; split at h
  · exact h
  · exact h.elim
theorem TellR.ownD_loc {a : TellR} {vn : AV} {k : Nat} (h : (a.ownD vn).loc k) : vn.loc k := by
  unfold TellR.ownD at h; split at h
  · exact h
  · exact h.elim
theorem q_all (l : List QidR) : (l.flatMap QidR.cells).all AV.st = true := by
  rw [List.all_eq_true]; intro x hx
  obtain ⟨q, _, hq⟩ := List.mem_flatMap.1 hx
  exact List.all_eq_true.1 (qcells_st q) x hq
theorem one86 {q : QidR} : buildSliceA Try.prog 86 true 1 [(0, .agg q.cells)] ⟨H, S⟩ = some (.sl ⟨0, H.length, 0⟩ 1 (some 1), ⟨H ++ [.row ⟨85, 3, q.cells, false, false⟩], S⟩) := by
  unfold buildSliceA
  simp only [ti86, ti85]
  have e1 : fillA (fun i => some (i * 3, 3)) (zeros (AV.agg QidR.z.cells).cells 1) [(0, .agg q.cells)] = some q.cells := rfl
  rw [if_pos ⟨by decide, rfl, rfl⟩]
  erw [e1]
  simp only
  rw [if_pos ⟨(rfl : 3 % 3 = 0), Nat.le_refl 3, rfl⟩]
  rfl
theorem q_snoc {v : AV} {l : List QidR} {q : QidR} (h : OH H v 85 3 (l.flatMap QidR.cells) l.length) (hl : l.length < 1000000) : ∃ v' H', appendA Try.prog 86 86 true v (.sl ⟨0, H.length, 0⟩ 1 (some 1)) ⟨H ++ [.row ⟨85, 3, q.cells, false, false⟩], S⟩ = some (v', ⟨H', S⟩) ∧ OH H' v' 85 3 ((l ++ [q]).flatMap QidR.cells) (l ++ [q]).length ∧ UpdH v.loc H H' ∧ ∀ k, v'.loc k → v.loc k ∨ H.length ≤ k := by
  have h1 : OH (H ++ [Block.row ⟨85, 3, q.cells, false, false⟩]) v 85 3 (l.flatMap QidR.cells) l.length := h.new UpdH.push
  have h2 : RH (H ++ [Block.row ⟨85, 3, q.cells, false, false⟩]) (.sl ⟨0, H.length, 0⟩ 1 (some 1)) 3 q.cells 1 := .inr ⟨H.length, 0, some 1, _, rfl, List.getElem?_concat_length .., rfl, rfl, rfl⟩
  obtain ⟨v', H', a1, a2, a3, a4⟩ := appH (S := S) ti86 rfl ti85 ti86 rfl rfl ⟨by decide, by decide, rfl, rfl⟩ h1 (content_rh h2) (qcells_st q) (by show (l.length + 1) * 24 ≤ _; omega)
  refine ⟨v', H', a1, ?_, UpdH.push.new a3, fun k hk => (a4 k hk).imp id fun h => by simp at h; omega⟩
  rw [List.flatMap_append, List.flatMap_singleton, List.length_append]
  exact a2
theorem OHQ {v : AV} {l : List QidR} (h : OH H v 85 3 (l.flatMap QidR.cells) l.length) : v.st = true ∧ v.cells = [v] := (oh_ql h).one
theorem snocQ {l : List QidR} {i : Nat} (h : i < l.length) : (l.take (i + 1)).map QidR.good = (l.take i).map QidR.good ++ [l[i].good] := by
  rw [List.take_add_one, List.getElem?_eq_getElem h, Option.toList_some, List.map_append]; rfl
theorem tbld7 {a b c d e f : Int} {q : QidR} : buildA Try.prog 90 [(0, .int .i64 a), (1, .int .i64 b), (2, .int .i64 c), (3, .int .i64 d), (4, .int .i64 e), (5, .int .i64 f), (7, .agg q.cells)] = some (.agg (TellR.cells ⟨a, b, c, d, e, f, [], q, [], [], StatR.z⟩ .nilsl .nilsl)) := by unfold buildA; simp only [ti90]; rfl
theorem bld85 {d : Bool} {a b : Int} : buildA Try.prog 85 [(0, .bool d), (1, .int .i64 a), (2, .int .i64 b)] = some (.agg (QidR.cells ⟨d, a, b⟩)) := by unfold buildA; simp only [ti85]; rfl
theorem bld85' {a : Int} : buildA Try.prog 85 [(1, .int .i64 a)] = some (.agg (QidR.cells ⟨false, a, 0⟩)) := by unfold buildA; simp only [ti85]; rfl
theorem bld88' {q : QidR} {a b : Int} {s : List UInt8} : buildA Try.prog 88 [(0, .agg q.cells), (1, .int .i64 a), (2, .int .i64 b), (3, .str s)] = some (.agg (StatR.cells ⟨q, a, b, s⟩)) := by unfold buildA; simp only [ti88]; rfl
theorem bk13 : buildSliceA Try.prog 59 false 13 [(0, .int .i64 101), (1, .int .i64 105), (2, .int .i64 107), (3, .int .i64 109), (4, .int .i64 111), (5, .int .i64 113), (6, .int .i64 115), (7, .int .i64 117), (8, .int .i64 119), (9, .int .i64 121), (10, .int .i64 123), (11, .int .i64 125), (12, .int .i64 127)] ⟨H, F :: S⟩ = some (.sl ⟨S.length + 1, F.length, 0⟩ 13 (some 13), ⟨H, (F ++ [.row ⟨3, 1, kinds13.map (AV.int .i64), false, false⟩]) :: S⟩) := by
  unfold buildSliceA
  simp only [ti59, ti3]
  have e1 : fillA (fun i => some (i * 1, 1)) (zeros (AV.int .i64 0).cells 13) [(0, .int .i64 101), (1, .int .i64 105), (2, .int .i64 107), (3, .int .i64 109), (4, .int .i64 111), (5, .int .i64 113), (6, .int .i64 115), (7, .int .i64 117), (8, .int .i64 119), (9, .int .i64 121), (10, .int .i64 123), (11, .int .i64 125), (12, .int .i64 127)] = some (kinds13.map (AV.int .i64)) := rfl
  rw [if_pos ⟨by decide, rfl, rfl⟩, e1]
  simp only
  rw [if_pos ⟨by decide, by decide, by rfl⟩]
  rfl
theorem bt13 : buildSliceA Try.prog 70 false 13 [(0, .str [122, 110]), (1, .str [113]), (2, .str [101]), (3, .str [45]), (4, .str [108]), (5, .str [113, 105]), (6, .str [113, 105]), (7, .str [100]), (8, .str [99]), (9, .str [45]), (10, .str [45]), (11, .str [115]), (12, .str [45])] ⟨H, F :: S⟩ = some (.sl ⟨S.length + 1, F.length, 0⟩ 13 (some 13), ⟨H, (F ++ [.row ⟨9, 1, texts13.map AV.str, false, false⟩]) :: S⟩) := by
  unfold buildSliceA
  simp only [ti70, ti9]
  have e1 : fillA (fun i => some (i * 1, 1)) (zeros (AV.str []).cells 13) [(0, .str [122, 110]), (1, .str [113]), (2, .str [101]), (3, .str [45]), (4, .str [108]), (5, .str [113, 105]), (6, .str [113, 105]), (7, .str [100]), (8, .str [99]), (9, .str [45]), (10, .str [45]), (11, .str [115]), (12, .str [45])] = some (texts13.map AV.str) := rfl
  rw [if_pos ⟨by decide, rfl, rfl⟩, e1]
  simp only
  rw [if_pos ⟨by decide, by decide, by rfl⟩]
  rfl
theorem kind_at13 {i ix : Nat} (hi : i < 13) (hg : M'.get (S.length + 1) ix = some (.row ⟨3, 1, kinds13.map (AV.int .i64), false, false⟩)) : indexAddrA Try.prog 59 (.sl ⟨S.length + 1, ix, 0⟩ 13 (some 13)) (.int .i64 i) M' = some (.ptr ⟨S.length + 1, ix, i⟩) ∧ loadA Try.prog 3 (.ptr ⟨S.length + 1, ix, i⟩) M' = some (.int .i64 (kinds13.getD i 0)) := by
  obtain ⟨h1, h2⟩ := at_row (kk := .i64) (c := some 13) hg ti59 rfl ti3 rfl rfl hi
  refine ⟨h1, ?_⟩
  rw [h2, List.getElem?_map, List.getD, List.getElem?_eq_getElem (show i < kinds13.length from hi)]; rfl
theorem text_at13 {i ix : Nat} (hi : i < 13) (hg : M'.get (S.length + 1) ix = some (.row ⟨9, 1, texts13.map AV.str, false, false⟩)) : indexAddrA Try.prog 70 (.sl ⟨S.length + 1, ix, 0⟩ 13 (some 13)) (.int .i64 i) M' = some (.ptr ⟨S.length + 1, ix, i⟩) ∧ loadA Try.prog 9 (.ptr ⟨S.length + 1, ix, i⟩) M' = some (.str (texts13.getD i [])) := by
  obtain ⟨h1, h2⟩ := at_row (kk := .i64) (c := some 13) hg ti70 rfl ti9 rfl rfl hi
  refine ⟨h1, ?_⟩
  rw [h2, List.getElem?_map, List.getD, List.getElem?_eq_getElem (show i < texts13.length from hi)]; rfl
theorem tfields109 {n : Int} : AC Try.prog 109 [.int .i64 n] ⟨H, S⟩ (fun v M' => v = .str (tfieldsOf n) ∧ M' = ⟨H, S⟩) := by
  refine AC_of_WE Try.func109 rfl ?_
  simp only [Try.ntmps109, List.length_cons, List.length_nil, List.replicate, List.cons_append, List.nil_append, mem_enter]
  (repeat refine W_seq ?_); refine W_regionT [] ?_
  simp only [go_sem]
  (repeat refine W_seq ?_); refine W_regionT [] ?_
  simp only [go_sem, bk13, List.nil_append, List.cons_append, List.length_nil, List.length_cons, Nat.zero_add, Nat.reduceAdd]
  (repeat refine W_seq ?_); refine W_regionT [] ?_
  simp only [go_sem, bt13, List.nil_append, List.cons_append, List.length_nil, List.length_cons, Nat.zero_add, Nat.reduceAdd]
  (repeat refine W_seq ?_); refine W_regionT [] ?_
  simp only [go_sem]
  (repeat refine W_seq ?_)
  refine W_block (W_loop (L_inv (fun j env M' => ∃ (x1 x2 x6 x7 x8 x9 x10 x11 x12 x13 x14 x15 x16 x17 x18 x19 x20 x21 x22 x23 : AV) (i : Nat), env = [.int .i64 n, x1, x2, .sl ⟨S.length + 1, 0, 0⟩ 13 (some 13), .sl ⟨S.length + 1, 1, 0⟩ 13 (some 13), .int .i64 i, x6, x7, x8, x9, x10, x11, x12, x13, x14, x15, x16, x17, x18, x19, x20, x21, x22, x23] ∧ i + j = 13 ∧ M' = ⟨H, [.row ⟨3, 1, kinds13.map (AV.int .i64), false, false⟩, .row ⟨9, 1, texts13.map AV.str, false, false⟩] :: S⟩ ∧ ∀ m, m < i → ¬ kinds13.getD m 0 = n) (fun j env M2 => ?_) (13) ?_))
  case refine_2 => exact ⟨_, _, _, _, _, _, _, _, _, _, _, _, _, _, _, _, _, _, _, _, 0, rfl, rfl, rfl, fun m h => by omega⟩
  refine exE fun x1 => exE fun x2 => exE fun x6 => exE fun x7 => exE fun x8 => exE fun x9 => exE fun x10 => exE fun x11 => exE fun x12 => exE fun x13 => exE fun x14 => exE fun x15 => exE fun x16 => exE fun x17 => exE fun x18 => exE fun x19 => exE fun x20 => exE fun x21 => exE fun x22 => exE fun x23 => ?_
  rintro ⟨i, rfl, hij, rfl, hno⟩
  (repeat refine W_seq ?_); refine W_regionT [] ?_
  simp only [go_sem, len59]
  (repeat refine W_seq ?_)
  refine W_cond_if rfl (fun hb => ?_) (fun hb => ?_)
  · have hi : i < 13 := by simp at hb; omega
    refine W_skip ?_
    simp only [go_sem]
    (repeat refine W_seq ?_)
    refine W_block ?_
    have a3 := kind_at13 (S := S) (M' := ⟨H, [.row ⟨3, 1, kinds13.map (AV.int .i64), false, false⟩, .row ⟨9, 1, texts13.map AV.str, false, false⟩] :: S⟩) hi gt0
    (repeat refine W_seq ?_); refine W_regionT [] ?_
    simp only [go_sem, a3.1, a3.2]
    (repeat refine W_seq ?_)
    refine W_cond_if rfl (fun hb => ?_) (fun hb => ?_)
    · have hfound : kinds13.getD i 0 = n := by simpa using hb
      have a4 := text_at13 (S := S) (M' := ⟨H, [.row ⟨3, 1, kinds13.map (AV.int .i64), false, false⟩, .row ⟨9, 1, texts13.map AV.str, false, false⟩] :: S⟩) hi gt1
      (repeat refine W_seq ?_); refine W_regionT [] ?_
      simp only [go_sem, a4.1, a4.2]
      refine W_ret ⟨.inr rfl, _, rfl, rfl, ?_, rfl⟩
      rw [← hfound, tfields_at hi]; rfl
    · have hnot : ¬ kinds13.getD i 0 = n := by simpa using hb
      refine W_skip ?_
      simp only [go_sem]
      (repeat refine W_seq ?_); refine W_regionT [] ?_
      simp only [go_sem, show (i : Int) + 1 = ((i + 1 : Nat) : Int) from rfl, wrap_i64 (n := ((i + 1 : Nat) : Int)) (by omega) (by omega)]
      refine ⟨j - 1, by omega, _, _, _, _, _, _, _, _, _, _, _, _, _, _, _, _, _, _, _, _, i + 1, rfl, by omega, trivial, fun m hm => by
  rcases Nat.lt_or_ge m i with h | h
  · exact hno m h
  · obtain rfl : m = i := by omega
    exact hnot⟩
  · have hi : i = 13 := by simp at hb; omega
    subst hi
    (repeat refine W_seq ?_)
    refine W_exit ?_
    simp only [go_sem]
    (repeat refine W_seq ?_); refine W_regionT [] ?_
    simp only [go_sem]
    refine W_ret ⟨.inr rfl, _, rfl, rfl, ?_, rfl⟩
    rw [tfields_no (fun h => hno 0 (by omega) h.symm) (fun h => hno 1 (by omega) h.symm) (fun h => hno 2 (by omega) h.symm) (fun h => hno 3 (by omega) h.symm) (fun h => hno 4 (by omega) h.symm) (fun h => hno 5 (by omega) h.symm) (fun h => hno 6 (by omega) h.symm) (fun h => hno 7 (by omega) h.symm) (fun h => hno 8 (by omega) h.symm) (fun h => hno 9 (by omega) h.symm) (fun h => hno 10 (by omega) h.symm) (fun h => hno 11 (by omega) h.symm) (fun h => hno 12 (by omega) h.symm)]; rfl
theorem thas141 {n : Int} (f : UInt8) : AC Try.prog 141 [.int .i64 n, .int .u8 f.toNat] ⟨H, S⟩ (fun v M' => v = .bool (thas n f) ∧ M' = ⟨H, S⟩) := by
  refine AC_of_WE Try.func141 rfl ?_
  simp only [Try.ntmps141, List.length_cons, List.length_nil, List.replicate, List.cons_append, List.nil_append, mem_enter]
  have hsh := tfields_short (k := n)
  unfold thas
  (repeat refine W_seq ?_); refine W_regionT [] ?_
  simp only [go_sem]
  (repeat refine W_seq ?_); refine W_regionT [] ?_
  simp only [go_sem]
  refine AT_call rfl rfl (tfields109) fun v M1 hd1 h1 => ?_
  obtain ⟨hv, hM⟩ := h1; subst hv; subst hM
  simp only [go_sem]
  generalize tfieldsOf n = l at hsh ⊢
  (repeat refine W_seq ?_); refine W_regionT [] ?_
  simp only [go_sem]
  (repeat refine W_seq ?_)
  refine W_block (W_loop (L_inv (fun j env M' => ∃ (x2 x3 x4 x7 x8 x9 x10 x11 x12 x13 x14 x15 x16 x17 x18 x19 : AV) (i : Nat), env = [.int .i64 n, .int .u8 f.toNat, x2, x3, x4, .str l, .int .i64 i, x7, x8, x9, x10, x11, x12, x13, x14, x15, x16, x17, x18, x19] ∧ i + j = l.length ∧ M' = ⟨H, [] :: S⟩ ∧ ∀ m (hm : m < l.length), m < i → ¬ (l[m] == f) = true) (fun j env M2 => ?_) (l.length) ?_))
  case refine_2 => exact ⟨_, _, _, _, _, _, _, _, _, _, _, _, _, _, _, _, 0, rfl, by omega, rfl, fun m _ h => by omega⟩
  refine exE fun x2 => exE fun x3 => exE fun x4 => exE fun x7 => exE fun x8 => exE fun x9 => exE fun x10 => exE fun x11 => exE fun x12 => exE fun x13 => exE fun x14 => exE fun x15 => exE fun x16 => exE fun x17 => exE fun x18 => exE fun x19 => ?_
  rintro ⟨i, rfl, hij, rfl, hno⟩
  (repeat refine W_seq ?_); refine W_regionT [] ?_
  simp only [go_sem, len9]
  (repeat refine W_seq ?_)
  refine W_cond_if rfl (fun hb => ?_) (fun hb => ?_)
  · have hi : i < l.length := by simpa using hb
    refine W_skip ?_
    simp only [go_sem]
    (repeat refine W_seq ?_)
    refine W_block ?_
    have a5 := str_at hi
    (repeat refine W_seq ?_); refine W_regionT [] ?_
    simp only [go_sem, a5]
    (repeat refine W_seq ?_)
    refine W_cond_if rfl (fun hb => ?_) (fun hb => ?_)
    · have hfound : (l[i] == f) = true := by simp only [decide_eq_true_eq] at hb; simp; exact UInt8.toNat_inj.1 (by omega)
      (repeat refine W_seq ?_); refine W_regionT [] ?_
      simp only [go_sem]
      refine W_ret ⟨.inr rfl, _, rfl, rfl, ?_, rfl⟩
      rw [show (l.any (· == f)) = true from List.any_eq_true.2 ⟨l[i], List.getElem_mem hi, hfound⟩]; rfl
    · have hnot : ¬ (l[i] == f) = true := by intro h; rw [beq_iff_eq] at h; rw [h] at hb; simp at hb
      refine W_skip ?_
      simp only [go_sem]
      (repeat refine W_seq ?_); refine W_regionT [] ?_
      simp only [go_sem, show (i : Int) + 1 = ((i + 1 : Nat) : Int) from rfl, wrap_i64 (n := ((i + 1 : Nat) : Int)) (by omega) (by omega)]
      refine ⟨j - 1, by omega, _, _, _, _, _, _, _, _, _, _, _, _, _, _, _, _, i + 1, rfl, by omega, trivial, fun m hml hm => by
  rcases Nat.lt_or_ge m i with h | h
  · exact hno m hml h
  · obtain rfl : m = i := by omega
    exact hnot⟩
  · have hi : l.length = i := by simp at hb; omega
    (repeat refine W_seq ?_)
    refine W_exit ?_
    simp only [go_sem]
    (repeat refine W_seq ?_); refine W_regionT [] ?_
    simp only [go_sem]
    refine W_ret ⟨.inr rfl, _, rfl, rfl, ?_, rfl⟩
    rw [show (l.any (· == f)) = false from ?_]; rfl
    rw [List.any_eq_false]
    intro s hs
    obtain ⟨m, hm⟩ := List.getElem?_of_mem hs
    obtain ⟨hml, hme⟩ := List.getElem?_eq_some_iff.1 hm
    rw [← hme]
    exact hno m hml (by omega)
theorem town108 {a : TellR} {vn vd : AV} (hn : QL H vn a.qids) (hd : BH H vd a.data) : AC Try.prog 108 [.agg (a.cells vn vd)] ⟨H, S⟩ (fun v M' => v = .agg (TellR.cells a.own (a.ownN vn) (a.ownD vd)) ∧ M' = ⟨H, S⟩) := by
  refine AC_of_WE Try.func108 rfl ?_
  simp only [Try.ntmps108, List.length_cons, List.length_nil, List.replicate, List.cons_append, List.nil_append, mem_enter]
  have c11 := fun b : TellR => tcells_st b hn.one.1 hd.one.1
  have c00 := fun b : TellR => tcells_st b (vn := .nilsl) (vd := .nilsl) rfl rfl
  have c10 := fun b : TellR => tcells_st b (vn := vn) (vd := .nilsl) hn.one.1 rfl
  have c01 := fun b : TellR => tcells_st b (vn := .nilsl) (vd := vd) rfl hd.one.1
  rcases (show tkind a.ty = 2 ∨ tkind a.ty = 3 ∨ tkind a.ty = 4 ∨ tkind a.ty = 5 ∨ tkind a.ty = 6 ∨ tkind a.ty = 7 ∨ tkind a.ty = 8 ∨ tkind a.ty = 9 ∨ ¬ (tkind a.ty = 2 ∨ tkind a.ty = 3 ∨ tkind a.ty = 4 ∨ tkind a.ty = 5 ∨ tkind a.ty = 6 ∨ tkind a.ty = 7 ∨ tkind a.ty = 8 ∨ tkind a.ty = 9) by omega) with hk | hk | hk | hk | hk | hk | hk | hk | hk
  · have h122 : thas a.ty 122 = true := by rw [thas_z]; simp [hk]
    have h113 : thas a.ty 113 = false := by rw [thas_q]; simp [hk]
    have h101 : thas a.ty 101 = false := by rw [thas_e]; simp [hk]
    have h108 : thas a.ty 108 = false := by rw [thas_l]; simp [hk]
    have h105 : thas a.ty 105 = false := by rw [thas_i]; simp [hk]
    have h100 : thas a.ty 100 = false := by rw [thas_d]; simp [hk]
    have h99 : thas a.ty 99 = false := by rw [thas_c]; simp [hk]
    have h115 : thas a.ty 115 = false := by rw [thas_s]; simp [hk]
    (repeat refine W_seq ?_); refine W_regionT [] ?_
    simp only [go_sem, wboxL (c11 a), wallocL, List.nil_append, List.cons_append, List.length_nil, List.length_cons, Nat.zero_add, Nat.reduceAdd]
    (repeat refine W_seq ?_); refine W_regionT [] ?_
    simp only [go_sem, wa0_0, wa1_0, wa2_0, wa3_0, wa4_0, wa5_0, wa6_0, wa7_0, wa8_0, wa9_0, wa10_0, wa88_12_0, wa88_15_0, wa88_16_0, wa88_17_0, wa85_7_0, wa85_8_0, wa85_9_0, wa85_13_0, wa85_14_0, wl0_0, wl1_0, wl2_0, wl3_0, wl4_0, wl5_0, wl6_0, wl7_0, wl8_0, wl9_0, wl10_0, wl11_0, wl12_0, wl13_0, wl14_0, wl15_0, wl16_0, wl17_0, wl7g85_0, wl12g85_0, wl12g88_0, wL_0]
    (repeat refine W_seq ?_); refine W_regionT [] ?_
    simp only [go_sem, tbld2, wallocL, wS_2 (c00 _), wa0_0, wa1_0, wa2_0, wa3_0, wa4_0, wa5_0, wa6_0, wa7_0, wa8_0, wa9_0, wa10_0, wa88_12_0, wa88_15_0, wa88_16_0, wa88_17_0, wa85_7_0, wa85_8_0, wa85_9_0, wa85_13_0, wa85_14_0, wl0_0, wl1_0, wl2_0, wl3_0, wl4_0, wl5_0, wl6_0, wl7_0, wl8_0, wl9_0, wl10_0, wl11_0, wl12_0, wl13_0, wl14_0, wl15_0, wl16_0, wl17_0, wl7g85_0, wl12g85_0, wl12g88_0, wL_0, List.nil_append, List.cons_append, List.length_nil, List.length_cons, Nat.zero_add, Nat.reduceAdd]
    (repeat refine W_seq ?_); refine W_regionT [] ?_
    simp only [go_sem]
    refine AT_call rfl rfl (thas141 122) fun v M1 hd1 h1 => ?_
    obtain ⟨hv, hM⟩ := h1; subst hv; subst hM
    simp only [go_sem, h122]
    (repeat refine W_seq ?_)
    refine W_cond (b := true) rfl ?_
    simp only [if_true]
    (repeat refine W_seq ?_); refine W_regionT [] ?_
    simp only [go_sem, wa3_0, wl3_0, wa3_2, ws3_2]
    (repeat refine W_seq ?_); refine W_regionT [] ?_
    simp only [go_sem, wa6_0, wl6_0, wa6_2, ws6_2]
    (repeat refine W_seq ?_); refine W_regionT [] ?_
    simp only [go_sem]
    refine AT_call rfl rfl (thas141 113) fun v M1 hd1 h1 => ?_
    obtain ⟨hv, hM⟩ := h1; subst hv; subst hM
    simp only [go_sem, h113]
    (repeat refine W_seq ?_)
    refine W_cond (b := false) rfl ?_
    simp only [Bool.false_eq_true, if_false]
    refine W_skip ?_
    simp only [go_sem]
    (repeat refine W_seq ?_); refine W_regionT [] ?_
    simp only [go_sem]
    refine AT_call rfl rfl (thas141 101) fun v M1 hd1 h1 => ?_
    obtain ⟨hv, hM⟩ := h1; subst hv; subst hM
    simp only [go_sem, h101]
    (repeat refine W_seq ?_)
    refine W_cond (b := false) rfl ?_
    simp only [Bool.false_eq_true, if_false]
    refine W_skip ?_
    simp only [go_sem]
    (repeat refine W_seq ?_); refine W_regionT [] ?_
    simp only [go_sem]
    refine AT_call rfl rfl (thas141 108) fun v M1 hd1 h1 => ?_
    obtain ⟨hv, hM⟩ := h1; subst hv; subst hM
    simp only [go_sem, h108]
    (repeat refine W_seq ?_)
    refine W_cond (b := false) rfl ?_
    simp only [Bool.false_eq_true, if_false]
    refine W_skip ?_
    simp only [go_sem]
    (repeat refine W_seq ?_); refine W_regionT [] ?_
    simp only [go_sem]
    refine AT_call rfl rfl (thas141 105) fun v M1 hd1 h1 => ?_
    obtain ⟨hv, hM⟩ := h1; subst hv; subst hM
    simp only [go_sem, h105]
    (repeat refine W_seq ?_)
    refine W_cond (b := false) rfl ?_
    simp only [Bool.false_eq_true, if_false]
    refine W_skip ?_
    simp only [go_sem]
    (repeat refine W_seq ?_); refine W_regionT [] ?_
    simp only [go_sem]
    refine AT_call rfl rfl (thas141 100) fun v M1 hd1 h1 => ?_
    obtain ⟨hv, hM⟩ := h1; subst hv; subst hM
    simp only [go_sem, h100]
    (repeat refine W_seq ?_)
    refine W_cond (b := false) rfl ?_
    simp only [Bool.false_eq_true, if_false]
    refine W_skip ?_
    simp only [go_sem]
    (repeat refine W_seq ?_); refine W_regionT [] ?_
    simp only [go_sem]
    refine AT_call rfl rfl (thas141 99) fun v M1 hd1 h1 => ?_
    obtain ⟨hv, hM⟩ := h1; subst hv; subst hM
    simp only [go_sem, h99]
    (repeat refine W_seq ?_)
    refine W_cond (b := false) rfl ?_
    simp only [Bool.false_eq_true, if_false]
    refine W_skip ?_
    simp only [go_sem]
    (repeat refine W_seq ?_); refine W_regionT [] ?_
    simp only [go_sem]
    refine AT_call rfl rfl (thas141 115) fun v M1 hd1 h1 => ?_
    obtain ⟨hv, hM⟩ := h1; subst hv; subst hM
    simp only [go_sem, h115]
    (repeat refine W_seq ?_)
    refine W_cond (b := false) rfl ?_
    simp only [Bool.false_eq_true, if_false]
    refine W_skip ?_
    simp only [go_sem]
    (repeat refine W_seq ?_); refine W_regionT [] ?_
    simp only [go_sem, wL_2, wS_1 (c00 _), wS_1 (c10 _), wS_1 (c01 _)]
    refine W_ret ⟨.inr rfl, [.agg (TellR.cells a.own .nilsl .nilsl)], ?_, ?_, ?_, rfl⟩
    · show (match loadA Try.prog 90 (.ptr ⟨S.length + 1, 1, 0⟩) _, resE Try.prog _ _ [] with | some v, some vs => some (v :: vs) | _, _ => none) = _
      rw [wL_1, town2 hk]; rfl
    · show (AV.agg _).lev0 = true
      have e : lev0s (TellR.cells a.own .nilsl .nilsl) = true := tcells_lev rfl rfl
      simp only [AV.lev0, e]
    · rw [show a.ownN vn = .nilsl from by unfold TellR.ownN; simp [hk], show a.ownD vd = .nilsl from by unfold TellR.ownD; simp [hk]]; rfl
  · have h122 : thas a.ty 122 = false := by rw [thas_z]; simp [hk]
    have h113 : thas a.ty 113 = true := by rw [thas_q]; simp [hk]
    have h101 : thas a.ty 101 = false := by rw [thas_e]; simp [hk]
    have h108 : thas a.ty 108 = false := by rw [thas_l]; simp [hk]
    have h105 : thas a.ty 105 = false := by rw [thas_i]; simp [hk]
    have h100 : thas a.ty 100 = false := by rw [thas_d]; simp [hk]
    have h99 : thas a.ty 99 = false := by rw [thas_c]; simp [hk]
    have h115 : thas a.ty 115 = false := by rw [thas_s]; simp [hk]
    (repeat refine W_seq ?_); refine W_regionT [] ?_
    simp only [go_sem, wboxL (c11 a), wallocL, List.nil_append, List.cons_append, List.length_nil, List.length_cons, Nat.zero_add, Nat.reduceAdd]
    (repeat refine W_seq ?_); refine W_regionT [] ?_
    simp only [go_sem, wa0_0, wa1_0, wa2_0, wa3_0, wa4_0, wa5_0, wa6_0, wa7_0, wa8_0, wa9_0, wa10_0, wa88_12_0, wa88_15_0, wa88_16_0, wa88_17_0, wa85_7_0, wa85_8_0, wa85_9_0, wa85_13_0, wa85_14_0, wl0_0, wl1_0, wl2_0, wl3_0, wl4_0, wl5_0, wl6_0, wl7_0, wl8_0, wl9_0, wl10_0, wl11_0, wl12_0, wl13_0, wl14_0, wl15_0, wl16_0, wl17_0, wl7g85_0, wl12g85_0, wl12g88_0, wL_0]
    (repeat refine W_seq ?_); refine W_regionT [] ?_
    simp only [go_sem, tbld2, wallocL, wS_2 (c00 _), wa0_0, wa1_0, wa2_0, wa3_0, wa4_0, wa5_0, wa6_0, wa7_0, wa8_0, wa9_0, wa10_0, wa88_12_0, wa88_15_0, wa88_16_0, wa88_17_0, wa85_7_0, wa85_8_0, wa85_9_0, wa85_13_0, wa85_14_0, wl0_0, wl1_0, wl2_0, wl3_0, wl4_0, wl5_0, wl6_0, wl7_0, wl8_0, wl9_0, wl10_0, wl11_0, wl12_0, wl13_0, wl14_0, wl15_0, wl16_0, wl17_0, wl7g85_0, wl12g85_0, wl12g88_0, wL_0, List.nil_append, List.cons_append, List.length_nil, List.length_cons, Nat.zero_add, Nat.reduceAdd]
    (repeat refine W_seq ?_); refine W_regionT [] ?_
    simp only [go_sem]
    refine AT_call rfl rfl (thas141 122) fun v M1 hd1 h1 => ?_
    obtain ⟨hv, hM⟩ := h1; subst hv; subst hM
    simp only [go_sem, h122]
    (repeat refine W_seq ?_)
    refine W_cond (b := false) rfl ?_
    simp only [Bool.false_eq_true, if_false]
    refine W_skip ?_
    simp only [go_sem]
    (repeat refine W_seq ?_); refine W_regionT [] ?_
    simp only [go_sem]
    refine AT_call rfl rfl (thas141 113) fun v M1 hd1 h1 => ?_
    obtain ⟨hv, hM⟩ := h1; subst hv; subst hM
    simp only [go_sem, h113]
    (repeat refine W_seq ?_)
    refine W_cond (b := true) rfl ?_
    simp only [if_true]
    (repeat refine W_seq ?_); refine W_regionT [] ?_
    simp only [go_sem, wa7_0, wl7g85_0, wa7_2, ws7g85_2]
    (repeat refine W_seq ?_); refine W_regionT [] ?_
    simp only [go_sem]
    refine AT_call rfl rfl (thas141 101) fun v M1 hd1 h1 => ?_
    obtain ⟨hv, hM⟩ := h1; subst hv; subst hM
    simp only [go_sem, h101]
    (repeat refine W_seq ?_)
    refine W_cond (b := false) rfl ?_
    simp only [Bool.false_eq_true, if_false]
    refine W_skip ?_
    simp only [go_sem]
    (repeat refine W_seq ?_); refine W_regionT [] ?_
    simp only [go_sem]
    refine AT_call rfl rfl (thas141 108) fun v M1 hd1 h1 => ?_
    obtain ⟨hv, hM⟩ := h1; subst hv; subst hM
    simp only [go_sem, h108]
    (repeat refine W_seq ?_)
    refine W_cond (b := false) rfl ?_
    simp only [Bool.false_eq_true, if_false]
    refine W_skip ?_
    simp only [go_sem]
    (repeat refine W_seq ?_); refine W_regionT [] ?_
    simp only [go_sem]
    refine AT_call rfl rfl (thas141 105) fun v M1 hd1 h1 => ?_
    obtain ⟨hv, hM⟩ := h1; subst hv; subst hM
    simp only [go_sem, h105]
    (repeat refine W_seq ?_)
    refine W_cond (b := false) rfl ?_
    simp only [Bool.false_eq_true, if_false]
    refine W_skip ?_
    simp only [go_sem]
    (repeat refine W_seq ?_); refine W_regionT [] ?_
    simp only [go_sem]
    refine AT_call rfl rfl (thas141 100) fun v M1 hd1 h1 => ?_
    obtain ⟨hv, hM⟩ := h1; subst hv; subst hM
    simp only [go_sem, h100]
    (repeat refine W_seq ?_)
    refine W_cond (b := false) rfl ?_
    simp only [Bool.false_eq_true, if_false]
    refine W_skip ?_
    simp only [go_sem]
    (repeat refine W_seq ?_); refine W_regionT [] ?_
    simp only [go_sem]
    refine AT_call rfl rfl (thas141 99) fun v M1 hd1 h1 => ?_
    obtain ⟨hv, hM⟩ := h1; subst hv; subst hM
    simp only [go_sem, h99]
    (repeat refine W_seq ?_)
    refine W_cond (b := false) rfl ?_
    simp only [Bool.false_eq_true, if_false]
    refine W_skip ?_
    simp only [go_sem]
    (repeat refine W_seq ?_); refine W_regionT [] ?_
    simp only [go_sem]
    refine AT_call rfl rfl (thas141 115) fun v M1 hd1 h1 => ?_
    obtain ⟨hv, hM⟩ := h1; subst hv; subst hM
    simp only [go_sem, h115]
    (repeat refine W_seq ?_)
    refine W_cond (b := false) rfl ?_
    simp only [Bool.false_eq_true, if_false]
    refine W_skip ?_
    simp only [go_sem]
    (repeat refine W_seq ?_); refine W_regionT [] ?_
    simp only [go_sem, wL_2, wS_1 (c00 _), wS_1 (c10 _), wS_1 (c01 _)]
    refine W_ret ⟨.inr rfl, [.agg (TellR.cells a.own .nilsl .nilsl)], ?_, ?_, ?_, rfl⟩
    · show (match loadA Try.prog 90 (.ptr ⟨S.length + 1, 1, 0⟩) _, resE Try.prog _ _ [] with | some v, some vs => some (v :: vs) | _, _ => none) = _
      rw [wL_1, town3 hk]; rfl
    · show (AV.agg _).lev0 = true
      have e : lev0s (TellR.cells a.own .nilsl .nilsl) = true := tcells_lev rfl rfl
      simp only [AV.lev0, e]
    · rw [show a.ownN vn = .nilsl from by unfold TellR.ownN; simp [hk], show a.ownD vd = .nilsl from by unfold TellR.ownD; simp [hk]]; rfl
  · have h122 : thas a.ty 122 = false := by rw [thas_z]; simp [hk]
    have h113 : thas a.ty 113 = false := by rw [thas_q]; simp [hk]
    have h101 : thas a.ty 101 = true := by rw [thas_e]; simp [hk]
    have h108 : thas a.ty 108 = false := by rw [thas_l]; simp [hk]
    have h105 : thas a.ty 105 = false := by rw [thas_i]; simp [hk]
    have h100 : thas a.ty 100 = false := by rw [thas_d]; simp [hk]
    have h99 : thas a.ty 99 = false := by rw [thas_c]; simp [hk]
    have h115 : thas a.ty 115 = false := by rw [thas_s]; simp [hk]
    (repeat refine W_seq ?_); refine W_regionT [] ?_
    simp only [go_sem, wboxL (c11 a), wallocL, List.nil_append, List.cons_append, List.length_nil, List.length_cons, Nat.zero_add, Nat.reduceAdd]
    (repeat refine W_seq ?_); refine W_regionT [] ?_
    simp only [go_sem, wa0_0, wa1_0, wa2_0, wa3_0, wa4_0, wa5_0, wa6_0, wa7_0, wa8_0, wa9_0, wa10_0, wa88_12_0, wa88_15_0, wa88_16_0, wa88_17_0, wa85_7_0, wa85_8_0, wa85_9_0, wa85_13_0, wa85_14_0, wl0_0, wl1_0, wl2_0, wl3_0, wl4_0, wl5_0, wl6_0, wl7_0, wl8_0, wl9_0, wl10_0, wl11_0, wl12_0, wl13_0, wl14_0, wl15_0, wl16_0, wl17_0, wl7g85_0, wl12g85_0, wl12g88_0, wL_0]
    (repeat refine W_seq ?_); refine W_regionT [] ?_
    simp only [go_sem, tbld2, wallocL, wS_2 (c00 _), wa0_0, wa1_0, wa2_0, wa3_0, wa4_0, wa5_0, wa6_0, wa7_0, wa8_0, wa9_0, wa10_0, wa88_12_0, wa88_15_0, wa88_16_0, wa88_17_0, wa85_7_0, wa85_8_0, wa85_9_0, wa85_13_0, wa85_14_0, wl0_0, wl1_0, wl2_0, wl3_0, wl4_0, wl5_0, wl6_0, wl7_0, wl8_0, wl9_0, wl10_0, wl11_0, wl12_0, wl13_0, wl14_0, wl15_0, wl16_0, wl17_0, wl7g85_0, wl12g85_0, wl12g88_0, wL_0, List.nil_append, List.cons_append, List.length_nil, List.length_cons, Nat.zero_add, Nat.reduceAdd]
    (repeat refine W_seq ?_); refine W_regionT [] ?_
    simp only [go_sem]
    refine AT_call rfl rfl (thas141 122) fun v M1 hd1 h1 => ?_
    obtain ⟨hv, hM⟩ := h1; subst hv; subst hM
    simp only [go_sem, h122]
    (repeat refine W_seq ?_)
    refine W_cond (b := false) rfl ?_
    simp only [Bool.false_eq_true, if_false]
    refine W_skip ?_
    simp only [go_sem]
    (repeat refine W_seq ?_); refine W_regionT [] ?_
    simp only [go_sem]
    refine AT_call rfl rfl (thas141 113) fun v M1 hd1 h1 => ?_
    obtain ⟨hv, hM⟩ := h1; subst hv; subst hM
    simp only [go_sem, h113]
    (repeat refine W_seq ?_)
    refine W_cond (b := false) rfl ?_
    simp only [Bool.false_eq_true, if_false]
    refine W_skip ?_
    simp only [go_sem]
    (repeat refine W_seq ?_); refine W_regionT [] ?_
    simp only [go_sem]
    refine AT_call rfl rfl (thas141 101) fun v M1 hd1 h1 => ?_
    obtain ⟨hv, hM⟩ := h1; subst hv; subst hM
    simp only [go_sem, h101]
    (repeat refine W_seq ?_)
    refine W_cond (b := true) rfl ?_
    simp only [if_true]
    (repeat refine W_seq ?_); refine W_regionT [] ?_
    simp only [go_sem, wa2_0, wl2_0, wa2_2, ws2_2]
    (repeat refine W_seq ?_); refine W_regionT [] ?_
    simp only [go_sem]
    refine AT_call rfl rfl (thas141 108) fun v M1 hd1 h1 => ?_
    obtain ⟨hv, hM⟩ := h1; subst hv; subst hM
    simp only [go_sem, h108]
    (repeat refine W_seq ?_)
    refine W_cond (b := false) rfl ?_
    simp only [Bool.false_eq_true, if_false]
    refine W_skip ?_
    simp only [go_sem]
    (repeat refine W_seq ?_); refine W_regionT [] ?_
    simp only [go_sem]
    refine AT_call rfl rfl (thas141 105) fun v M1 hd1 h1 => ?_
    obtain ⟨hv, hM⟩ := h1; subst hv; subst hM
    simp only [go_sem, h105]
    (repeat refine W_seq ?_)
    refine W_cond (b := false) rfl ?_
    simp only [Bool.false_eq_true, if_false]
    refine W_skip ?_
    simp only [go_sem]
    (repeat refine W_seq ?_); refine W_regionT [] ?_
    simp only [go_sem]
    refine AT_call rfl rfl (thas141 100) fun v M1 hd1 h1 => ?_
    obtain ⟨hv, hM⟩ := h1; subst hv; subst hM
    simp only [go_sem, h100]
    (repeat refine W_seq ?_)
    refine W_cond (b := false) rfl ?_
    simp only [Bool.false_eq_true, if_false]
    refine W_skip ?_
    simp only [go_sem]
    (repeat refine W_seq ?_); refine W_regionT [] ?_
    simp only [go_sem]
    refine AT_call rfl rfl (thas141 99) fun v M1 hd1 h1 => ?_
    obtain ⟨hv, hM⟩ := h1; subst hv; subst hM
    simp only [go_sem, h99]
    (repeat refine W_seq ?_)
    refine W_cond (b := false) rfl ?_
    simp only [Bool.false_eq_true, if_false]
    refine W_skip ?_
    simp only [go_sem]
    (repeat refine W_seq ?_); refine W_regionT [] ?_
    simp only [go_sem]
    refine AT_call rfl rfl (thas141 115) fun v M1 hd1 h1 => ?_
    obtain ⟨hv, hM⟩ := h1; subst hv; subst hM
    simp only [go_sem, h115]
    (repeat refine W_seq ?_)
    refine W_cond (b := false) rfl ?_
    simp only [Bool.false_eq_true, if_false]
    refine W_skip ?_
    simp only [go_sem]
    (repeat refine W_seq ?_); refine W_regionT [] ?_
    simp only [go_sem, wL_2, wS_1 (c00 _), wS_1 (c10 _), wS_1 (c01 _)]
    refine W_ret ⟨.inr rfl, [.agg (TellR.cells a.own .nilsl .nilsl)], ?_, ?_, ?_, rfl⟩
    · show (match loadA Try.prog 90 (.ptr ⟨S.length + 1, 1, 0⟩) _, resE Try.prog _ _ [] with | some v, some vs => some (v :: vs) | _, _ => none) = _
      rw [wL_1, town4 hk]; rfl
    · show (AV.agg _).lev0 = true
      have e : lev0s (TellR.cells a.own .nilsl .nilsl) = true := tcells_lev rfl rfl
      simp only [AV.lev0, e]
    · rw [show a.ownN vn = .nilsl from by unfold TellR.ownN; simp [hk], show a.ownD vd = .nilsl from by unfold TellR.ownD; simp [hk]]; rfl
  · have h122 : thas a.ty 122 = false := by rw [thas_z]; simp [hk]
    have h113 : thas a.ty 113 = false := by rw [thas_q]; simp [hk]
    have h101 : thas a.ty 101 = false := by rw [thas_e]; simp [hk]
    have h108 : thas a.ty 108 = true := by rw [thas_l]; simp [hk]
    have h105 : thas a.ty 105 = false := by rw [thas_i]; simp [hk]
    have h100 : thas a.ty 100 = false := by rw [thas_d]; simp [hk]
    have h99 : thas a.ty 99 = false := by rw [thas_c]; simp [hk]
    have h115 : thas a.ty 115 = false := by rw [thas_s]; simp [hk]
    (repeat refine W_seq ?_); refine W_regionT [] ?_
    simp only [go_sem, wboxL (c11 a), wallocL, List.nil_append, List.cons_append, List.length_nil, List.length_cons, Nat.zero_add, Nat.reduceAdd]
    (repeat refine W_seq ?_); refine W_regionT [] ?_
    simp only [go_sem, wa0_0, wa1_0, wa2_0, wa3_0, wa4_0, wa5_0, wa6_0, wa7_0, wa8_0, wa9_0, wa10_0, wa88_12_0, wa88_15_0, wa88_16_0, wa88_17_0, wa85_7_0, wa85_8_0, wa85_9_0, wa85_13_0, wa85_14_0, wl0_0, wl1_0, wl2_0, wl3_0, wl4_0, wl5_0, wl6_0, wl7_0, wl8_0, wl9_0, wl10_0, wl11_0, wl12_0, wl13_0, wl14_0, wl15_0, wl16_0, wl17_0, wl7g85_0, wl12g85_0, wl12g88_0, wL_0]
    (repeat refine W_seq ?_); refine W_regionT [] ?_
    simp only [go_sem, tbld2, wallocL, wS_2 (c00 _), wa0_0, wa1_0, wa2_0, wa3_0, wa4_0, wa5_0, wa6_0, wa7_0, wa8_0, wa9_0, wa10_0, wa88_12_0, wa88_15_0, wa88_16_0, wa88_17_0, wa85_7_0, wa85_8_0, wa85_9_0, wa85_13_0, wa85_14_0, wl0_0, wl1_0, wl2_0, wl3_0, wl4_0, wl5_0, wl6_0, wl7_0, wl8_0, wl9_0, wl10_0, wl11_0, wl12_0, wl13_0, wl14_0, wl15_0, wl16_0, wl17_0, wl7g85_0, wl12g85_0, wl12g88_0, wL_0, List.nil_append, List.cons_append, List.length_nil, List.length_cons, Nat.zero_add, Nat.reduceAdd]
    (repeat refine W_seq ?_); refine W_regionT [] ?_
    simp only [go_sem]
    refine AT_call rfl rfl (thas141 122) fun v M1 hd1 h1 => ?_
    obtain ⟨hv, hM⟩ := h1; subst hv; subst hM
    simp only [go_sem, h122]
    (repeat refine W_seq ?_)
    refine W_cond (b := false) rfl ?_
    simp only [Bool.false_eq_true, if_false]
    refine W_skip ?_
    simp only [go_sem]
    (repeat refine W_seq ?_); refine W_regionT [] ?_
    simp only [go_sem]
    refine AT_call rfl rfl (thas141 113) fun v M1 hd1 h1 => ?_
    obtain ⟨hv, hM⟩ := h1; subst hv; subst hM
    simp only [go_sem, h113]
    (repeat refine W_seq ?_)
    refine W_cond (b := false) rfl ?_
    simp only [Bool.false_eq_true, if_false]
    refine W_skip ?_
    simp only [go_sem]
    (repeat refine W_seq ?_); refine W_regionT [] ?_
    simp only [go_sem]
    refine AT_call rfl rfl (thas141 101) fun v M1 hd1 h1 => ?_
    obtain ⟨hv, hM⟩ := h1; subst hv; subst hM
    simp only [go_sem, h101]
    (repeat refine W_seq ?_)
    refine W_cond (b := false) rfl ?_
    simp only [Bool.false_eq_true, if_false]
    refine W_skip ?_
    simp only [go_sem]
    (repeat refine W_seq ?_); refine W_regionT [] ?_
    simp only [go_sem]
    refine AT_call rfl rfl (thas141 108) fun v M1 hd1 h1 => ?_
    obtain ⟨hv, hM⟩ := h1; subst hv; subst hM
    simp only [go_sem, h108]
    (repeat refine W_seq ?_)
    refine W_cond (b := true) rfl ?_
    simp only [if_true]
    (repeat refine W_seq ?_); refine W_regionT [] ?_
    simp only [go_sem, wa8_0, wl10_0, wa8_2, ws10_2 hn.one.1 hn.one.2]
    (repeat refine W_seq ?_); refine W_regionT [] ?_
    simp only [go_sem]
    refine AT_call rfl rfl (thas141 105) fun v M1 hd1 h1 => ?_
    obtain ⟨hv, hM⟩ := h1; subst hv; subst hM
    simp only [go_sem, h105]
    (repeat refine W_seq ?_)
    refine W_cond (b := false) rfl ?_
    simp only [Bool.false_eq_true, if_false]
    refine W_skip ?_
    simp only [go_sem]
    (repeat refine W_seq ?_); refine W_regionT [] ?_
    simp only [go_sem]
    refine AT_call rfl rfl (thas141 100) fun v M1 hd1 h1 => ?_
    obtain ⟨hv, hM⟩ := h1; subst hv; subst hM
    simp only [go_sem, h100]
    (repeat refine W_seq ?_)
    refine W_cond (b := false) rfl ?_
    simp only [Bool.false_eq_true, if_false]
    refine W_skip ?_
    simp only [go_sem]
    (repeat refine W_seq ?_); refine W_regionT [] ?_
    simp only [go_sem]
    refine AT_call rfl rfl (thas141 99) fun v M1 hd1 h1 => ?_
    obtain ⟨hv, hM⟩ := h1; subst hv; subst hM
    simp only [go_sem, h99]
    (repeat refine W_seq ?_)
    refine W_cond (b := false) rfl ?_
    simp only [Bool.false_eq_true, if_false]
    refine W_skip ?_
    simp only [go_sem]
    (repeat refine W_seq ?_); refine W_regionT [] ?_
    simp only [go_sem]
    refine AT_call rfl rfl (thas141 115) fun v M1 hd1 h1 => ?_
    obtain ⟨hv, hM⟩ := h1; subst hv; subst hM
    simp only [go_sem, h115]
    (repeat refine W_seq ?_)
    refine W_cond (b := false) rfl ?_
    simp only [Bool.false_eq_true, if_false]
    refine W_skip ?_
    simp only [go_sem]
    (repeat refine W_seq ?_); refine W_regionT [] ?_
    simp only [go_sem, wL_2, wS_1 (c00 _), wS_1 (c10 _), wS_1 (c01 _)]
    refine W_ret ⟨.inr rfl, [.agg (TellR.cells a.own vn .nilsl)], ?_, ?_, ?_, rfl⟩
    · show (match loadA Try.prog 90 (.ptr ⟨S.length + 1, 1, 0⟩) _, resE Try.prog _ _ [] with | some v, some vs => some (v :: vs) | _, _ => none) = _
      rw [wL_1, town5 hk]; rfl
    · show (AV.agg _).lev0 = true
      have e : lev0s (TellR.cells a.own vn .nilsl) = true := tcells_lev hn.lev0' rfl
      simp only [AV.lev0, e]
    · rw [show a.ownN vn = vn from by unfold TellR.ownN; simp [hk], show a.ownD vd = .nilsl from by unfold TellR.ownD; simp [hk]]; rfl
  · have h122 : thas a.ty 122 = false := by rw [thas_z]; simp [hk]
    have h113 : thas a.ty 113 = true := by rw [thas_q]; simp [hk]
    have h101 : thas a.ty 101 = false := by rw [thas_e]; simp [hk]
    have h108 : thas a.ty 108 = false := by rw [thas_l]; simp [hk]
    have h105 : thas a.ty 105 = true := by rw [thas_i]; simp [hk]
    have h100 : thas a.ty 100 = false := by rw [thas_d]; simp [hk]
    have h99 : thas a.ty 99 = false := by rw [thas_c]; simp [hk]
    have h115 : thas a.ty 115 = false := by rw [thas_s]; simp [hk]
    (repeat refine W_seq ?_); refine W_regionT [] ?_
    simp only [go_sem, wboxL (c11 a), wallocL, List.nil_append, List.cons_append, List.length_nil, List.length_cons, Nat.zero_add, Nat.reduceAdd]
    (repeat refine W_seq ?_); refine W_regionT [] ?_
    simp only [go_sem, wa0_0, wa1_0, wa2_0, wa3_0, wa4_0, wa5_0, wa6_0, wa7_0, wa8_0, wa9_0, wa10_0, wa88_12_0, wa88_15_0, wa88_16_0, wa88_17_0, wa85_7_0, wa85_8_0, wa85_9_0, wa85_13_0, wa85_14_0, wl0_0, wl1_0, wl2_0, wl3_0, wl4_0, wl5_0, wl6_0, wl7_0, wl8_0, wl9_0, wl10_0, wl11_0, wl12_0, wl13_0, wl14_0, wl15_0, wl16_0, wl17_0, wl7g85_0, wl12g85_0, wl12g88_0, wL_0]
    (repeat refine W_seq ?_); refine W_regionT [] ?_
    simp only [go_sem, tbld2, wallocL, wS_2 (c00 _), wa0_0, wa1_0, wa2_0, wa3_0, wa4_0, wa5_0, wa6_0, wa7_0, wa8_0, wa9_0, wa10_0, wa88_12_0, wa88_15_0, wa88_16_0, wa88_17_0, wa85_7_0, wa85_8_0, wa85_9_0, wa85_13_0, wa85_14_0, wl0_0, wl1_0, wl2_0, wl3_0, wl4_0, wl5_0, wl6_0, wl7_0, wl8_0, wl9_0, wl10_0, wl11_0, wl12_0, wl13_0, wl14_0, wl15_0, wl16_0, wl17_0, wl7g85_0, wl12g85_0, wl12g88_0, wL_0, List.nil_append, List.cons_append, List.length_nil, List.length_cons, Nat.zero_add, Nat.reduceAdd]
    (repeat refine W_seq ?_); refine W_regionT [] ?_
    simp only [go_sem]
    refine AT_call rfl rfl (thas141 122) fun v M1 hd1 h1 => ?_
    obtain ⟨hv, hM⟩ := h1; subst hv; subst hM
    simp only [go_sem, h122]
    (repeat refine W_seq ?_)
    refine W_cond (b := false) rfl ?_
    simp only [Bool.false_eq_true, if_false]
    refine W_skip ?_
    simp only [go_sem]
    (repeat refine W_seq ?_); refine W_regionT [] ?_
    simp only [go_sem]
    refine AT_call rfl rfl (thas141 113) fun v M1 hd1 h1 => ?_
    obtain ⟨hv, hM⟩ := h1; subst hv; subst hM
    simp only [go_sem, h113]
    (repeat refine W_seq ?_)
    refine W_cond (b := true) rfl ?_
    simp only [if_true]
    (repeat refine W_seq ?_); refine W_regionT [] ?_
    simp only [go_sem, wa7_0, wl7g85_0, wa7_2, ws7g85_2]
    (repeat refine W_seq ?_); refine W_regionT [] ?_
    simp only [go_sem]
    refine AT_call rfl rfl (thas141 101) fun v M1 hd1 h1 => ?_
    obtain ⟨hv, hM⟩ := h1; subst hv; subst hM
    simp only [go_sem, h101]
    (repeat refine W_seq ?_)
    refine W_cond (b := false) rfl ?_
    simp only [Bool.false_eq_true, if_false]
    refine W_skip ?_
    simp only [go_sem]
    (repeat refine W_seq ?_); refine W_regionT [] ?_
    simp only [go_sem]
    refine AT_call rfl rfl (thas141 108) fun v M1 hd1 h1 => ?_
    obtain ⟨hv, hM⟩ := h1; subst hv; subst hM
    simp only [go_sem, h108]
    (repeat refine W_seq ?_)
    refine W_cond (b := false) rfl ?_
    simp only [Bool.false_eq_true, if_false]
    refine W_skip ?_
    simp only [go_sem]
    (repeat refine W_seq ?_); refine W_regionT [] ?_
    simp only [go_sem]
    refine AT_call rfl rfl (thas141 105) fun v M1 hd1 h1 => ?_
    obtain ⟨hv, hM⟩ := h1; subst hv; subst hM
    simp only [go_sem, h105]
    (repeat refine W_seq ?_)
    refine W_cond (b := true) rfl ?_
    simp only [if_true]
    (repeat refine W_seq ?_); refine W_regionT [] ?_
    simp only [go_sem, wa4_0, wl4_0, wa4_2, ws4_2]
    (repeat refine W_seq ?_); refine W_regionT [] ?_
    simp only [go_sem]
    refine AT_call rfl rfl (thas141 100) fun v M1 hd1 h1 => ?_
    obtain ⟨hv, hM⟩ := h1; subst hv; subst hM
    simp only [go_sem, h100]
    (repeat refine W_seq ?_)
    refine W_cond (b := false) rfl ?_
    simp only [Bool.false_eq_true, if_false]
    refine W_skip ?_
    simp only [go_sem]
    (repeat refine W_seq ?_); refine W_regionT [] ?_
    simp only [go_sem]
    refine AT_call rfl rfl (thas141 99) fun v M1 hd1 h1 => ?_
    obtain ⟨hv, hM⟩ := h1; subst hv; subst hM
    simp only [go_sem, h99]
    (repeat refine W_seq ?_)
    refine W_cond (b := false) rfl ?_
    simp only [Bool.false_eq_true, if_false]
    refine W_skip ?_
    simp only [go_sem]
    (repeat refine W_seq ?_); refine W_regionT [] ?_
    simp only [go_sem]
    refine AT_call rfl rfl (thas141 115) fun v M1 hd1 h1 => ?_
    obtain ⟨hv, hM⟩ := h1; subst hv; subst hM
    simp only [go_sem, h115]
    (repeat refine W_seq ?_)
    refine W_cond (b := false) rfl ?_
    simp only [Bool.false_eq_true, if_false]
    refine W_skip ?_
    simp only [go_sem]
    (repeat refine W_seq ?_); refine W_regionT [] ?_
    simp only [go_sem, wL_2, wS_1 (c00 _), wS_1 (c10 _), wS_1 (c01 _)]
    refine W_ret ⟨.inr rfl, [.agg (TellR.cells a.own .nilsl .nilsl)], ?_, ?_, ?_, rfl⟩
    · show (match loadA Try.prog 90 (.ptr ⟨S.length + 1, 1, 0⟩) _, resE Try.prog _ _ [] with | some v, some vs => some (v :: vs) | _, _ => none) = _
      rw [wL_1, town6 hk]; rfl
    · show (AV.agg _).lev0 = true
      have e : lev0s (TellR.cells a.own .nilsl .nilsl) = true := tcells_lev rfl rfl
      simp only [AV.lev0, e]
    · rw [show a.ownN vn = .nilsl from by unfold TellR.ownN; simp [hk], show a.ownD vd = .nilsl from by unfold TellR.ownD; simp [hk]]; rfl
  · have h122 : thas a.ty 122 = false := by rw [thas_z]; simp [hk]
    have h113 : thas a.ty 113 = false := by rw [thas_q]; simp [hk]
    have h101 : thas a.ty 101 = false := by rw [thas_e]; simp [hk]
    have h108 : thas a.ty 108 = false := by rw [thas_l]; simp [hk]
    have h105 : thas a.ty 105 = false := by rw [thas_i]; simp [hk]
    have h100 : thas a.ty 100 = true := by rw [thas_d]; simp [hk]
    have h99 : thas a.ty 99 = false := by rw [thas_c]; simp [hk]
    have h115 : thas a.ty 115 = false := by rw [thas_s]; simp [hk]
    (repeat refine W_seq ?_); refine W_regionT [] ?_
    simp only [go_sem, wboxL (c11 a), wallocL, List.nil_append, List.cons_append, List.length_nil, List.length_cons, Nat.zero_add, Nat.reduceAdd]
    (repeat refine W_seq ?_); refine W_regionT [] ?_
    simp only [go_sem, wa0_0, wa1_0, wa2_0, wa3_0, wa4_0, wa5_0, wa6_0, wa7_0, wa8_0, wa9_0, wa10_0, wa88_12_0, wa88_15_0, wa88_16_0, wa88_17_0, wa85_7_0, wa85_8_0, wa85_9_0, wa85_13_0, wa85_14_0, wl0_0, wl1_0, wl2_0, wl3_0, wl4_0, wl5_0, wl6_0, wl7_0, wl8_0, wl9_0, wl10_0, wl11_0, wl12_0, wl13_0, wl14_0, wl15_0, wl16_0, wl17_0, wl7g85_0, wl12g85_0, wl12g88_0, wL_0]
    (repeat refine W_seq ?_); refine W_regionT [] ?_
    simp only [go_sem, tbld2, wallocL, wS_2 (c00 _), wa0_0, wa1_0, wa2_0, wa3_0, wa4_0, wa5_0, wa6_0, wa7_0, wa8_0, wa9_0, wa10_0, wa88_12_0, wa88_15_0, wa88_16_0, wa88_17_0, wa85_7_0, wa85_8_0, wa85_9_0, wa85_13_0, wa85_14_0, wl0_0, wl1_0, wl2_0, wl3_0, wl4_0, wl5_0, wl6_0, wl7_0, wl8_0, wl9_0, wl10_0, wl11_0, wl12_0, wl13_0, wl14_0, wl15_0, wl16_0, wl17_0, wl7g85_0, wl12g85_0, wl12g88_0, wL_0, List.nil_append, List.cons_append, List.length_nil, List.length_cons, Nat.zero_add, Nat.reduceAdd]
    (repeat refine W_seq ?_); refine W_regionT [] ?_
    simp only [go_sem]
    refine AT_call rfl rfl (thas141 122) fun v M1 hd1 h1 => ?_
    obtain ⟨hv, hM⟩ := h1; subst hv; subst hM
    simp only [go_sem, h122]
    (repeat refine W_seq ?_)
    refine W_cond (b := false) rfl ?_
    simp only [Bool.false_eq_true, if_false]
    refine W_skip ?_
    simp only [go_sem]
    (repeat refine W_seq ?_); refine W_regionT [] ?_
    simp only [go_sem]
    refine AT_call rfl rfl (thas141 113) fun v M1 hd1 h1 => ?_
    obtain ⟨hv, hM⟩ := h1; subst hv; subst hM
    simp only [go_sem, h113]
    (repeat refine W_seq ?_)
    refine W_cond (b := false) rfl ?_
    simp only [Bool.false_eq_true, if_false]
    refine W_skip ?_
    simp only [go_sem]
    (repeat refine W_seq ?_); refine W_regionT [] ?_
    simp only [go_sem]
    refine AT_call rfl rfl (thas141 101) fun v M1 hd1 h1 => ?_
    obtain ⟨hv, hM⟩ := h1; subst hv; subst hM
    simp only [go_sem, h101]
    (repeat refine W_seq ?_)
    refine W_cond (b := false) rfl ?_
    simp only [Bool.false_eq_true, if_false]
    refine W_skip ?_
    simp only [go_sem]
    (repeat refine W_seq ?_); refine W_regionT [] ?_
    simp only [go_sem]
    refine AT_call rfl rfl (thas141 108) fun v M1 hd1 h1 => ?_
    obtain ⟨hv, hM⟩ := h1; subst hv; subst hM
    simp only [go_sem, h108]
    (repeat refine W_seq ?_)
    refine W_cond (b := false) rfl ?_
    simp only [Bool.false_eq_true, if_false]
    refine W_skip ?_
    simp only [go_sem]
    (repeat refine W_seq ?_); refine W_regionT [] ?_
    simp only [go_sem]
    refine AT_call rfl rfl (thas141 105) fun v M1 hd1 h1 => ?_
    obtain ⟨hv, hM⟩ := h1; subst hv; subst hM
    simp only [go_sem, h105]
    (repeat refine W_seq ?_)
    refine W_cond (b := false) rfl ?_
    simp only [Bool.false_eq_true, if_false]
    refine W_skip ?_
    simp only [go_sem]
    (repeat refine W_seq ?_); refine W_regionT [] ?_
    simp only [go_sem]
    refine AT_call rfl rfl (thas141 100) fun v M1 hd1 h1 => ?_
    obtain ⟨hv, hM⟩ := h1; subst hv; subst hM
    simp only [go_sem, h100]
    (repeat refine W_seq ?_)
    refine W_cond (b := true) rfl ?_
    simp only [if_true]
    (repeat refine W_seq ?_); refine W_regionT [] ?_
    simp only [go_sem, wa9_0, wl11_0, wa9_2, ws11_2 hd.one.1 hd.one.2]
    (repeat refine W_seq ?_); refine W_regionT [] ?_
    simp only [go_sem]
    refine AT_call rfl rfl (thas141 99) fun v M1 hd1 h1 => ?_
    obtain ⟨hv, hM⟩ := h1; subst hv; subst hM
    simp only [go_sem, h99]
    (repeat refine W_seq ?_)
    refine W_cond (b := false) rfl ?_
    simp only [Bool.false_eq_true, if_false]
    refine W_skip ?_
    simp only [go_sem]
    (repeat refine W_seq ?_); refine W_regionT [] ?_
    simp only [go_sem]
    refine AT_call rfl rfl (thas141 115) fun v M1 hd1 h1 => ?_
    obtain ⟨hv, hM⟩ := h1; subst hv; subst hM
    simp only [go_sem, h115]
    (repeat refine W_seq ?_)
    refine W_cond (b := false) rfl ?_
    simp only [Bool.false_eq_true, if_false]
    refine W_skip ?_
    simp only [go_sem]
    (repeat refine W_seq ?_); refine W_regionT [] ?_
    simp only [go_sem, wL_2, wS_1 (c00 _), wS_1 (c10 _), wS_1 (c01 _)]
    refine W_ret ⟨.inr rfl, [.agg (TellR.cells a.own .nilsl vd)], ?_, ?_, ?_, rfl⟩
    · show (match loadA Try.prog 90 (.ptr ⟨S.length + 1, 1, 0⟩) _, resE Try.prog _ _ [] with | some v, some vs => some (v :: vs) | _, _ => none) = _
      rw [wL_1, town7 hk]; rfl
    · show (AV.agg _).lev0 = true
      have e : lev0s (TellR.cells a.own .nilsl vd) = true := tcells_lev rfl hd.lev0'
      simp only [AV.lev0, e]
    · rw [show a.ownN vn = .nilsl from by unfold TellR.ownN; simp [hk], show a.ownD vd = vd from by unfold TellR.ownD; simp [hk]]; rfl
  · have h122 : thas a.ty 122 = false := by rw [thas_z]; simp [hk]
    have h113 : thas a.ty 113 = false := by rw [thas_q]; simp [hk]
    have h101 : thas a.ty 101 = false := by rw [thas_e]; simp [hk]
    have h108 : thas a.ty 108 = false := by rw [thas_l]; simp [hk]
    have h105 : thas a.ty 105 = false := by rw [thas_i]; simp [hk]
    have h100 : thas a.ty 100 = false := by rw [thas_d]; simp [hk]
    have h99 : thas a.ty 99 = true := by rw [thas_c]; simp [hk]
    have h115 : thas a.ty 115 = false := by rw [thas_s]; simp [hk]
    (repeat refine W_seq ?_); refine W_regionT [] ?_
    simp only [go_sem, wboxL (c11 a), wallocL, List.nil_append, List.cons_append, List.length_nil, List.length_cons, Nat.zero_add, Nat.reduceAdd]
    (repeat refine W_seq ?_); refine W_regionT [] ?_
    simp only [go_sem, wa0_0, wa1_0, wa2_0, wa3_0, wa4_0, wa5_0, wa6_0, wa7_0, wa8_0, wa9_0, wa10_0, wa88_12_0, wa88_15_0, wa88_16_0, wa88_17_0, wa85_7_0, wa85_8_0, wa85_9_0, wa85_13_0, wa85_14_0, wl0_0, wl1_0, wl2_0, wl3_0, wl4_0, wl5_0, wl6_0, wl7_0, wl8_0, wl9_0, wl10_0, wl11_0, wl12_0, wl13_0, wl14_0, wl15_0, wl16_0, wl17_0, wl7g85_0, wl12g85_0, wl12g88_0, wL_0]
    (repeat refine W_seq ?_); refine W_regionT [] ?_
    simp only [go_sem, tbld2, wallocL, wS_2 (c00 _), wa0_0, wa1_0, wa2_0, wa3_0, wa4_0, wa5_0, wa6_0, wa7_0, wa8_0, wa9_0, wa10_0, wa88_12_0, wa88_15_0, wa88_16_0, wa88_17_0, wa85_7_0, wa85_8_0, wa85_9_0, wa85_13_0, wa85_14_0, wl0_0, wl1_0, wl2_0, wl3_0, wl4_0, wl5_0, wl6_0, wl7_0, wl8_0, wl9_0, wl10_0, wl11_0, wl12_0, wl13_0, wl14_0, wl15_0, wl16_0, wl17_0, wl7g85_0, wl12g85_0, wl12g88_0, wL_0, List.nil_append, List.cons_append, List.length_nil, List.length_cons, Nat.zero_add, Nat.reduceAdd]
    (repeat refine W_seq ?_); refine W_regionT [] ?_
    simp only [go_sem]
    refine AT_call rfl rfl (thas141 122) fun v M1 hd1 h1 => ?_
    obtain ⟨hv, hM⟩ := h1; subst hv; subst hM
    simp only [go_sem, h122]
    (repeat refine W_seq ?_)
    refine W_cond (b := false) rfl ?_
    simp only [Bool.false_eq_true, if_false]
    refine W_skip ?_
    simp only [go_sem]
    (repeat refine W_seq ?_); refine W_regionT [] ?_
    simp only [go_sem]
    refine AT_call rfl rfl (thas141 113) fun v M1 hd1 h1 => ?_
    obtain ⟨hv, hM⟩ := h1; subst hv; subst hM
    simp only [go_sem, h113]
    (repeat refine W_seq ?_)
    refine W_cond (b := false) rfl ?_
    simp only [Bool.false_eq_true, if_false]
    refine W_skip ?_
    simp only [go_sem]
    (repeat refine W_seq ?_); refine W_regionT [] ?_
    simp only [go_sem]
    refine AT_call rfl rfl (thas141 101) fun v M1 hd1 h1 => ?_
    obtain ⟨hv, hM⟩ := h1; subst hv; subst hM
    simp only [go_sem, h101]
    (repeat refine W_seq ?_)
    refine W_cond (b := false) rfl ?_
    simp only [Bool.false_eq_true, if_false]
    refine W_skip ?_
    simp only [go_sem]
    (repeat refine W_seq ?_); refine W_regionT [] ?_
    simp only [go_sem]
    refine AT_call rfl rfl (thas141 108) fun v M1 hd1 h1 => ?_
    obtain ⟨hv, hM⟩ := h1; subst hv; subst hM
    simp only [go_sem, h108]
    (repeat refine W_seq ?_)
    refine W_cond (b := false) rfl ?_
    simp only [Bool.false_eq_true, if_false]
    refine W_skip ?_
    simp only [go_sem]
    (repeat refine W_seq ?_); refine W_regionT [] ?_
    simp only [go_sem]
    refine AT_call rfl rfl (thas141 105) fun v M1 hd1 h1 => ?_
    obtain ⟨hv, hM⟩ := h1; subst hv; subst hM
    simp only [go_sem, h105]
    (repeat refine W_seq ?_)
    refine W_cond (b := false) rfl ?_
    simp only [Bool.false_eq_true, if_false]
    refine W_skip ?_
    simp only [go_sem]
    (repeat refine W_seq ?_); refine W_regionT [] ?_
    simp only [go_sem]
    refine AT_call rfl rfl (thas141 100) fun v M1 hd1 h1 => ?_
    obtain ⟨hv, hM⟩ := h1; subst hv; subst hM
    simp only [go_sem, h100]
    (repeat refine W_seq ?_)
    refine W_cond (b := false) rfl ?_
    simp only [Bool.false_eq_true, if_false]
    refine W_skip ?_
    simp only [go_sem]
    (repeat refine W_seq ?_); refine W_regionT [] ?_
    simp only [go_sem]
    refine AT_call rfl rfl (thas141 99) fun v M1 hd1 h1 => ?_
    obtain ⟨hv, hM⟩ := h1; subst hv; subst hM
    simp only [go_sem, h99]
    (repeat refine W_seq ?_)
    refine W_cond (b := true) rfl ?_
    simp only [if_true]
    (repeat refine W_seq ?_); refine W_regionT [] ?_
    simp only [go_sem, wa5_0, wl5_0, wa5_2, ws5_2]
    (repeat refine W_seq ?_); refine W_regionT [] ?_
    simp only [go_sem]
    refine AT_call rfl rfl (thas141 115) fun v M1 hd1 h1 => ?_
    obtain ⟨hv, hM⟩ := h1; subst hv; subst hM
    simp only [go_sem, h115]
    (repeat refine W_seq ?_)
    refine W_cond (b := false) rfl ?_
    simp only [Bool.false_eq_true, if_false]
    refine W_skip ?_
    simp only [go_sem]
    (repeat refine W_seq ?_); refine W_regionT [] ?_
    simp only [go_sem, wL_2, wS_1 (c00 _), wS_1 (c10 _), wS_1 (c01 _)]
    refine W_ret ⟨.inr rfl, [.agg (TellR.cells a.own .nilsl .nilsl)], ?_, ?_, ?_, rfl⟩
    · show (match loadA Try.prog 90 (.ptr ⟨S.length + 1, 1, 0⟩) _, resE Try.prog _ _ [] with | some v, some vs => some (v :: vs) | _, _ => none) = _
      rw [wL_1, town8 hk]; rfl
    · show (AV.agg _).lev0 = true
      have e : lev0s (TellR.cells a.own .nilsl .nilsl) = true := tcells_lev rfl rfl
      simp only [AV.lev0, e]
    · rw [show a.ownN vn = .nilsl from by unfold TellR.ownN; simp [hk], show a.ownD vd = .nilsl from by unfold TellR.ownD; simp [hk]]; rfl
  · have h122 : thas a.ty 122 = false := by rw [thas_z]; simp [hk]
    have h113 : thas a.ty 113 = false := by rw [thas_q]; simp [hk]
    have h101 : thas a.ty 101 = false := by rw [thas_e]; simp [hk]
    have h108 : thas a.ty 108 = false := by rw [thas_l]; simp [hk]
    have h105 : thas a.ty 105 = false := by rw [thas_i]; simp [hk]
    have h100 : thas a.ty 100 = false := by rw [thas_d]; simp [hk]
    have h99 : thas a.ty 99 = false := by rw [thas_c]; simp [hk]
    have h115 : thas a.ty 115 = true := by rw [thas_s]; simp [hk]
    (repeat refine W_seq ?_); refine W_regionT [] ?_
    simp only [go_sem, wboxL (c11 a), wallocL, List.nil_append, List.cons_append, List.length_nil, List.length_cons, Nat.zero_add, Nat.reduceAdd]
    (repeat refine W_seq ?_); refine W_regionT [] ?_
    simp only [go_sem, wa0_0, wa1_0, wa2_0, wa3_0, wa4_0, wa5_0, wa6_0, wa7_0, wa8_0, wa9_0, wa10_0, wa88_12_0, wa88_15_0, wa88_16_0, wa88_17_0, wa85_7_0, wa85_8_0, wa85_9_0, wa85_13_0, wa85_14_0, wl0_0, wl1_0, wl2_0, wl3_0, wl4_0, wl5_0, wl6_0, wl7_0, wl8_0, wl9_0, wl10_0, wl11_0, wl12_0, wl13_0, wl14_0, wl15_0, wl16_0, wl17_0, wl7g85_0, wl12g85_0, wl12g88_0, wL_0]
    (repeat refine W_seq ?_); refine W_regionT [] ?_
    simp only [go_sem, tbld2, wallocL, wS_2 (c00 _), wa0_0, wa1_0, wa2_0, wa3_0, wa4_0, wa5_0, wa6_0, wa7_0, wa8_0, wa9_0, wa10_0, wa88_12_0, wa88_15_0, wa88_16_0, wa88_17_0, wa85_7_0, wa85_8_0, wa85_9_0, wa85_13_0, wa85_14_0, wl0_0, wl1_0, wl2_0, wl3_0, wl4_0, wl5_0, wl6_0, wl7_0, wl8_0, wl9_0, wl10_0, wl11_0, wl12_0, wl13_0, wl14_0, wl15_0, wl16_0, wl17_0, wl7g85_0, wl12g85_0, wl12g88_0, wL_0, List.nil_append, List.cons_append, List.length_nil, List.length_cons, Nat.zero_add, Nat.reduceAdd]
    (repeat refine W_seq ?_); refine W_regionT [] ?_
    simp only [go_sem]
    refine AT_call rfl rfl (thas141 122) fun v M1 hd1 h1 => ?_
    obtain ⟨hv, hM⟩ := h1; subst hv; subst hM
    simp only [go_sem, h122]
    (repeat refine W_seq ?_)
    refine W_cond (b := false) rfl ?_
    simp only [Bool.false_eq_true, if_false]
    refine W_skip ?_
    simp only [go_sem]
    (repeat refine W_seq ?_); refine W_regionT [] ?_
    simp only [go_sem]
    refine AT_call rfl rfl (thas141 113) fun v M1 hd1 h1 => ?_
    obtain ⟨hv, hM⟩ := h1; subst hv; subst hM
    simp only [go_sem, h113]
    (repeat refine W_seq ?_)
    refine W_cond (b := false) rfl ?_
    simp only [Bool.false_eq_true, if_false]
    refine W_skip ?_
    simp only [go_sem]
    (repeat refine W_seq ?_); refine W_regionT [] ?_
    simp only [go_sem]
    refine AT_call rfl rfl (thas141 101) fun v M1 hd1 h1 => ?_
    obtain ⟨hv, hM⟩ := h1; subst hv; subst hM
    simp only [go_sem, h101]
    (repeat refine W_seq ?_)
    refine W_cond (b := false) rfl ?_
    simp only [Bool.false_eq_true, if_false]
    refine W_skip ?_
    simp only [go_sem]
    (repeat refine W_seq ?_); refine W_regionT [] ?_
    simp only [go_sem]
    refine AT_call rfl rfl (thas141 108) fun v M1 hd1 h1 => ?_
    obtain ⟨hv, hM⟩ := h1; subst hv; subst hM
    simp only [go_sem, h108]
    (repeat refine W_seq ?_)
    refine W_cond (b := false) rfl ?_
    simp only [Bool.false_eq_true, if_false]
    refine W_skip ?_
    simp only [go_sem]
    (repeat refine W_seq ?_); refine W_regionT [] ?_
    simp only [go_sem]
    refine AT_call rfl rfl (thas141 105) fun v M1 hd1 h1 => ?_
    obtain ⟨hv, hM⟩ := h1; subst hv; subst hM
    simp only [go_sem, h105]
    (repeat refine W_seq ?_)
    refine W_cond (b := false) rfl ?_
    simp only [Bool.false_eq_true, if_false]
    refine W_skip ?_
    simp only [go_sem]
    (repeat refine W_seq ?_); refine W_regionT [] ?_
    simp only [go_sem]
    refine AT_call rfl rfl (thas141 100) fun v M1 hd1 h1 => ?_
    obtain ⟨hv, hM⟩ := h1; subst hv; subst hM
    simp only [go_sem, h100]
    (repeat refine W_seq ?_)
    refine W_cond (b := false) rfl ?_
    simp only [Bool.false_eq_true, if_false]
    refine W_skip ?_
    simp only [go_sem]
    (repeat refine W_seq ?_); refine W_regionT [] ?_
    simp only [go_sem]
    refine AT_call rfl rfl (thas141 99) fun v M1 hd1 h1 => ?_
    obtain ⟨hv, hM⟩ := h1; subst hv; subst hM
    simp only [go_sem, h99]
    (repeat refine W_seq ?_)
    refine W_cond (b := false) rfl ?_
    simp only [Bool.false_eq_true, if_false]
    refine W_skip ?_
    simp only [go_sem]
    (repeat refine W_seq ?_); refine W_regionT [] ?_
    simp only [go_sem]
    refine AT_call rfl rfl (thas141 115) fun v M1 hd1 h1 => ?_
    obtain ⟨hv, hM⟩ := h1; subst hv; subst hM
    simp only [go_sem, h115]
    (repeat refine W_seq ?_)
    refine W_cond (b := true) rfl ?_
    simp only [if_true]
    (repeat refine W_seq ?_); refine W_regionT [] ?_
    simp only [go_sem, wa10_0, wl12g88_0, wa10_2, ws12g88_2]
    (repeat refine W_seq ?_); refine W_regionT [] ?_
    simp only [go_sem, wL_2, wS_1 (c00 _), wS_1 (c10 _), wS_1 (c01 _)]
    refine W_ret ⟨.inr rfl, [.agg (TellR.cells a.own .nilsl .nilsl)], ?_, ?_, ?_, rfl⟩
    · show (match loadA Try.prog 90 (.ptr ⟨S.length + 1, 1, 0⟩) _, resE Try.prog _ _ [] with | some v, some vs => some (v :: vs) | _, _ => none) = _
      rw [wL_1, town9 hk]; rfl
    · show (AV.agg _).lev0 = true
      have e : lev0s (TellR.cells a.own .nilsl .nilsl) = true := tcells_lev rfl rfl
      simp only [AV.lev0, e]
    · rw [show a.ownN vn = .nilsl from by unfold TellR.ownN; simp [hk], show a.ownD vd = .nilsl from by unfold TellR.ownD; simp [hk]]; rfl
  · simp only [not_or] at hk
    obtain ⟨n2, n3, n4, n5, n6, n7, n8, n9⟩ := hk
    have h122 : thas a.ty 122 = false := by rw [thas_z]; simp [n2, n3, n4, n5, n6, n7, n8, n9]
    have h113 : thas a.ty 113 = false := by rw [thas_q]; simp [n2, n3, n4, n5, n6, n7, n8, n9]
    have h101 : thas a.ty 101 = false := by rw [thas_e]; simp [n2, n3, n4, n5, n6, n7, n8, n9]
    have h108 : thas a.ty 108 = false := by rw [thas_l]; simp [n2, n3, n4, n5, n6, n7, n8, n9]
    have h105 : thas a.ty 105 = false := by rw [thas_i]; simp [n2, n3, n4, n5, n6, n7, n8, n9]
    have h100 : thas a.ty 100 = false := by rw [thas_d]; simp [n2, n3, n4, n5, n6, n7, n8, n9]
    have h99 : thas a.ty 99 = false := by rw [thas_c]; simp [n2, n3, n4, n5, n6, n7, n8, n9]
    have h115 : thas a.ty 115 = false := by rw [thas_s]; simp [n2, n3, n4, n5, n6, n7, n8, n9]
    (repeat refine W_seq ?_); refine W_regionT [] ?_
    simp only [go_sem, wboxL (c11 a), wallocL, List.nil_append, List.cons_append, List.length_nil, List.length_cons, Nat.zero_add, Nat.reduceAdd]
    (repeat refine W_seq ?_); refine W_regionT [] ?_
    simp only [go_sem, wa0_0, wa1_0, wa2_0, wa3_0, wa4_0, wa5_0, wa6_0, wa7_0, wa8_0, wa9_0, wa10_0, wa88_12_0, wa88_15_0, wa88_16_0, wa88_17_0, wa85_7_0, wa85_8_0, wa85_9_0, wa85_13_0, wa85_14_0, wl0_0, wl1_0, wl2_0, wl3_0, wl4_0, wl5_0, wl6_0, wl7_0, wl8_0, wl9_0, wl10_0, wl11_0, wl12_0, wl13_0, wl14_0, wl15_0, wl16_0, wl17_0, wl7g85_0, wl12g85_0, wl12g88_0, wL_0]
    (repeat refine W_seq ?_); refine W_regionT [] ?_
    simp only [go_sem, tbld2, wallocL, wS_2 (c00 _), wa0_0, wa1_0, wa2_0, wa3_0, wa4_0, wa5_0, wa6_0, wa7_0, wa8_0, wa9_0, wa10_0, wa88_12_0, wa88_15_0, wa88_16_0, wa88_17_0, wa85_7_0, wa85_8_0, wa85_9_0, wa85_13_0, wa85_14_0, wl0_0, wl1_0, wl2_0, wl3_0, wl4_0, wl5_0, wl6_0, wl7_0, wl8_0, wl9_0, wl10_0, wl11_0, wl12_0, wl13_0, wl14_0, wl15_0, wl16_0, wl17_0, wl7g85_0, wl12g85_0, wl12g88_0, wL_0, List.nil_append, List.cons_append, List.length_nil, List.length_cons, Nat.zero_add, Nat.reduceAdd]
    (repeat refine W_seq ?_); refine W_regionT [] ?_
    simp only [go_sem]
    refine AT_call rfl rfl (thas141 122) fun v M1 hd1 h1 => ?_
    obtain ⟨hv, hM⟩ := h1; subst hv; subst hM
    simp only [go_sem, h122]
    (repeat refine W_seq ?_)
    refine W_cond (b := false) rfl ?_
    simp only [Bool.false_eq_true, if_false]
    refine W_skip ?_
    simp only [go_sem]
    (repeat refine W_seq ?_); refine W_regionT [] ?_
    simp only [go_sem]
    refine AT_call rfl rfl (thas141 113) fun v M1 hd1 h1 => ?_
    obtain ⟨hv, hM⟩ := h1; subst hv; subst hM
    simp only [go_sem, h113]
    (repeat refine W_seq ?_)
    refine W_cond (b := false) rfl ?_
    simp only [Bool.false_eq_true, if_false]
    refine W_skip ?_
    simp only [go_sem]
    (repeat refine W_seq ?_); refine W_regionT [] ?_
    simp only [go_sem]
    refine AT_call rfl rfl (thas141 101) fun v M1 hd1 h1 => ?_
    obtain ⟨hv, hM⟩ := h1; subst hv; subst hM
    simp only [go_sem, h101]
    (repeat refine W_seq ?_)
    refine W_cond (b := false) rfl ?_
    simp only [Bool.false_eq_true, if_false]
    refine W_skip ?_
    simp only [go_sem]
    (repeat refine W_seq ?_); refine W_regionT [] ?_
    simp only [go_sem]
    refine AT_call rfl rfl (thas141 108) fun v M1 hd1 h1 => ?_
    obtain ⟨hv, hM⟩ := h1; subst hv; subst hM
    simp only [go_sem, h108]
    (repeat refine W_seq ?_)
    refine W_cond (b := false) rfl ?_
    simp only [Bool.false_eq_true, if_false]
    refine W_skip ?_
    simp only [go_sem]
    (repeat refine W_seq ?_); refine W_regionT [] ?_
    simp only [go_sem]
    refine AT_call rfl rfl (thas141 105) fun v M1 hd1 h1 => ?_
    obtain ⟨hv, hM⟩ := h1; subst hv; subst hM
    simp only [go_sem, h105]
    (repeat refine W_seq ?_)
    refine W_cond (b := false) rfl ?_
    simp only [Bool.false_eq_true, if_false]
    refine W_skip ?_
    simp only [go_sem]
    (repeat refine W_seq ?_); refine W_regionT [] ?_
    simp only [go_sem]
    refine AT_call rfl rfl (thas141 100) fun v M1 hd1 h1 => ?_
    obtain ⟨hv, hM⟩ := h1; subst hv; subst hM
    simp only [go_sem, h100]
    (repeat refine W_seq ?_)
    refine W_cond (b := false) rfl ?_
    simp only [Bool.false_eq_true, if_false]
    refine W_skip ?_
    simp only [go_sem]
    (repeat refine W_seq ?_); refine W_regionT [] ?_
    simp only [go_sem]
    refine AT_call rfl rfl (thas141 99) fun v M1 hd1 h1 => ?_
    obtain ⟨hv, hM⟩ := h1; subst hv; subst hM
    simp only [go_sem, h99]
    (repeat refine W_seq ?_)
    refine W_cond (b := false) rfl ?_
    simp only [Bool.false_eq_true, if_false]
    refine W_skip ?_
    simp only [go_sem]
    (repeat refine W_seq ?_); refine W_regionT [] ?_
    simp only [go_sem]
    refine AT_call rfl rfl (thas141 115) fun v M1 hd1 h1 => ?_
    obtain ⟨hv, hM⟩ := h1; subst hv; subst hM
    simp only [go_sem, h115]
    (repeat refine W_seq ?_)
    refine W_cond (b := false) rfl ?_
    simp only [Bool.false_eq_true, if_false]
    refine W_skip ?_
    simp only [go_sem]
    (repeat refine W_seq ?_); refine W_regionT [] ?_
    simp only [go_sem, wL_2, wS_1 (c00 _), wS_1 (c10 _), wS_1 (c01 _)]
    refine W_ret ⟨.inr rfl, [.agg (TellR.cells a.own .nilsl .nilsl)], ?_, ?_, ?_, rfl⟩
    · show (match loadA Try.prog 90 (.ptr ⟨S.length + 1, 1, 0⟩) _, resE Try.prog _ _ [] with | some v, some vs => some (v :: vs) | _, _ => none) = _
      rw [wL_1, town0 n2 n3 n4 n5 n6 n7 n8 n9]; rfl
    · show (AV.agg _).lev0 = true
      have e : lev0s (TellR.cells a.own .nilsl .nilsl) = true := tcells_lev rfl rfl
      simp only [AV.lev0, e]
    · rw [show a.ownN vn = .nilsl from by unfold TellR.ownN; simp [n2, n3, n4, n5, n6, n7, n8, n9], show a.ownD vd = .nilsl from by unfold TellR.ownD; simp [n2, n3, n4, n5, n6, n7, n8, n9]]; rfl
theorem tkind104 {n : Int} (hn : -9223372036854775808 ≤ n ∧ n < 9223372036854775808) : AC Try.prog 104 [.int .i64 n] ⟨H, S⟩ (fun v M' => v = .int .i64 (tkindOf n) ∧ M' = ⟨H, S⟩) := by
  refine AC_of_WE Try.func104 rfl ?_
  simp only [Try.ntmps104, List.length_cons, List.length_nil, List.replicate, List.cons_append, List.nil_append, mem_enter]
  (repeat refine W_seq ?_); refine W_regionT [] ?_
  simp only [go_sem]
  (repeat refine W_seq ?_); refine W_regionT [] ?_
  simp only [go_sem, bk13, List.nil_append, List.cons_append, List.length_nil, List.length_cons, Nat.zero_add, Nat.reduceAdd]
  refine AT_call rfl rfl (aroundF hn.1 hn.2 (by decide)) fun v M1 hd1 h1 => ?_
  obtain ⟨hv, hM⟩ := h1
  have hr := around_range (n := n) (k := 13) (by decide)
  unfold tkindOf
  generalize around n 13 = r at hv hr ⊢
  subst hv; subst hM
  obtain ⟨t, rfl⟩ : ∃ t : Nat, r = t := ⟨r.toNat, by omega⟩
  have a3 := kind_at13 (S := S) (i := t) (ix := 0) (M' := ⟨H, [.row ⟨3, 1, kinds13.map (AV.int .i64), false, false⟩] :: S⟩) (by omega) gt0
  simp only [go_sem, a3.1, a3.2, bk13, List.nil_append, List.cons_append, List.length_nil, List.length_cons, Nat.zero_add, Nat.reduceAdd]
  exact W_ret ⟨.inr rfl, _, rfl, rfl, rfl, rfl⟩
theorem tkindQ {M : Mem} {n : Int} (hn : -9223372036854775808 ≤ n ∧ n < 9223372036854775808) : AC Try.prog 104 [.int .i64 n] M fun v M' => v = .int .i64 (tkindOf n) ∧ M' = M := by obtain ⟨H, S⟩ := M; exact tkind104 hn
theorem low105 {n : Int} (hn : -9223372036854775808 ≤ n ∧ n < 9223372036854775808) : AC Try.prog 105 [.int .i64 n] ⟨H, S⟩ (fun v M' => v = .int .i64 (around n 4294967296) ∧ M' = ⟨H, S⟩) := by
  refine AC_of_WE Try.func105 rfl ?_
  simp only [Try.ntmps105, List.length_cons, List.length_nil, List.replicate, List.cons_append, List.nil_append, mem_enter]
  (repeat refine W_seq ?_); refine W_regionT [] ?_
  simp only [go_sem]
  (repeat refine W_seq ?_); refine W_regionT [] ?_
  simp only [go_sem]
  refine AT_call rfl rfl (aroundF hn.1 hn.2 (by decide)) fun v M1 hd1 h1 => ?_
  obtain ⟨hv, hM⟩ := h1; subst hv; subst hM
  simp only [go_sem]
  exact W_ret ⟨.inr rfl, _, rfl, rfl, rfl, rfl⟩
theorem low105Q {M : Mem} {n : Int} (hn : -9223372036854775808 ≤ n ∧ n < 9223372036854775808) : AC Try.prog 105 [.int .i64 n] M fun v M' => v = .int .i64 (around n 4294967296) ∧ M' = M := by obtain ⟨H, S⟩ := M; exact low105 hn
theorem high107 {n : Int} (hn : -9223372036854775808 ≤ n ∧ n < 9223372036854775808) : AC Try.prog 107 [.int .i64 n] ⟨H, S⟩ (fun v M' => v = .int .i64 (around n 4611686018427387905) ∧ M' = ⟨H, S⟩) := by
  refine AC_of_WE Try.func107 rfl ?_
  simp only [Try.ntmps107, List.length_cons, List.length_nil, List.replicate, List.cons_append, List.nil_append, mem_enter]
  (repeat refine W_seq ?_); refine W_regionT [] ?_
  simp only [go_sem]
  (repeat refine W_seq ?_); refine W_regionT [] ?_
  simp only [go_sem]
  refine AT_call rfl rfl (aroundF hn.1 hn.2 (by decide)) fun v M1 hd1 h1 => ?_
  obtain ⟨hv, hM⟩ := h1; subst hv; subst hM
  simp only [go_sem]
  exact W_ret ⟨.inr rfl, _, rfl, rfl, rfl, rfl⟩
theorem high107Q {M : Mem} {n : Int} (hn : -9223372036854775808 ≤ n ∧ n < 9223372036854775808) : AC Try.prog 107 [.int .i64 n] M fun v M' => v = .int .i64 (around n 4611686018427387905) ∧ M' = M := by obtain ⟨H, S⟩ := M; exact high107 hn
theorem qgood106 {q : QidR} (g : ((-9223372036854775808 ≤ q.ver ∧ q.ver < 9223372036854775808) ∧ (-9223372036854775808 ≤ q.path ∧ q.path < 9223372036854775808))) : AC Try.prog 106 [.agg q.cells] ⟨H, S⟩ (fun v M' => v = .agg q.good.cells ∧ M' = ⟨H, S⟩) := by
  refine AC_of_WE Try.func106 rfl ?_
  simp only [Try.ntmps106, List.length_cons, List.length_nil, List.replicate, List.cons_append, List.nil_append, mem_enter]
  (repeat refine W_seq ?_); refine W_regionT [] ?_
  simp only [go_sem, yboxL (qcells_st q), yallocL, List.nil_append, List.cons_append, List.length_nil, List.length_cons, Nat.zero_add, Nat.reduceAdd]
  (repeat refine W_seq ?_); refine W_regionD [] [9] [0, 1, 2, 3, 4, 5, 6, 7, 8, 9] [0, 1, 0, 4, 12, 0, 32, 124, 255, 511] mixedM (by kernel_rfl) (by kernel_rfl) (by kernel_rfl) ?_
  simp only [listed, go_sem, bld85]
  refine AD_read (v := .ptr ⟨S.length + 1, 0, 0⟩) (fun M' => M'.get (S.length + 1) 0 = some (Block.row ⟨85, 3, QidR.cells q, false, false⟩)) rfl rfl (fun M' h => by show pureV (fieldAddrA Try.prog 85 (.ptr ⟨S.length + 1, 0, 0⟩) 0 M') M' = _; rw [ya0 h]; rfl) (gt0) ?_
  simp only [go_sem, bld85]
  refine AD_read (v := .bool q.dir) (fun M' => M'.get (S.length + 1) 0 = some (Block.row ⟨85, 3, QidR.cells q, false, false⟩)) rfl rfl (fun M' h => by show pureV (loadA Try.prog 4 (.ptr ⟨S.length + 1, 0, 0⟩) M') M' = _; rw [yl0 h]; rfl) (gt0) ?_
  simp only [go_sem, bld85]
  refine AD_read (v := .ptr ⟨S.length + 1, 0, 1⟩) (fun M' => M'.get (S.length + 1) 0 = some (Block.row ⟨85, 3, QidR.cells q, false, false⟩)) rfl rfl (fun M' h => by show pureV (fieldAddrA Try.prog 85 (.ptr ⟨S.length + 1, 0, 0⟩) 1 M') M' = _; rw [ya1 h]; rfl) (gt0) ?_
  simp only [go_sem, bld85]
  refine AD_read (v := .int .i64 q.ver) (fun M' => M'.get (S.length + 1) 0 = some (Block.row ⟨85, 3, QidR.cells q, false, false⟩)) rfl rfl (fun M' h => by show pureV (loadA Try.prog 3 (.ptr ⟨S.length + 1, 0, 1⟩) M') M' = _; rw [yl1 h]; rfl) (gt0) ?_
  simp only [go_sem, bld85]
  refine AD_quiet (v := .int .i64 (around q.ver 4294967296)) rfl rfl rfl (fun M => low105Q g.1) ?_
  simp only [go_sem, bld85]
  refine AD_read (v := .ptr ⟨S.length + 1, 0, 2⟩) (fun M' => M'.get (S.length + 1) 0 = some (Block.row ⟨85, 3, QidR.cells q, false, false⟩)) rfl rfl (fun M' h => by show pureV (fieldAddrA Try.prog 85 (.ptr ⟨S.length + 1, 0, 0⟩) 2 M') M' = _; rw [ya2 h]; rfl) (gt0) ?_
  simp only [go_sem, bld85]
  refine AD_read (v := .int .i64 q.path) (fun M' => M'.get (S.length + 1) 0 = some (Block.row ⟨85, 3, QidR.cells q, false, false⟩)) rfl rfl (fun M' h => by show pureV (loadA Try.prog 3 (.ptr ⟨S.length + 1, 0, 2⟩) M') M' = _; rw [yl2 h]; rfl) (gt0) ?_
  simp only [go_sem, bld85]
  refine AD_quiet (v := .int .i64 (around q.path 4611686018427387905)) rfl rfl rfl (fun M => high107Q g.2) ?_
  simp only [go_sem, bld85]
  refine AD_loud (v := .undef) (M' := ⟨H, [Block.row ⟨85, 3, QidR.cells q, false, false⟩, Block.row ⟨85, 3, QidR.cells q.good, false, false⟩] :: S⟩) rfl ((yS (a := QidR.z) (b := q.good) (qcells_st q.good) gt1).trans (by rw [sg1])) ⟨fun ha => absurd (ha.symm.trans (show ancB _ _ _ _ = true by kernel_rfl)) (by decide), fun ha => absurd (ha.symm.trans (show ancB _ _ _ _ = true by kernel_rfl)) (by decide), fun ha => absurd (ha.symm.trans (show ancB _ _ _ _ = true by kernel_rfl)) (by decide), fun ha => absurd (ha.symm.trans (show ancB _ _ _ _ = true by kernel_rfl)) (by decide), fun ha => absurd (ha.symm.trans (show ancB _ _ _ _ = true by kernel_rfl)) (by decide), fun ha => absurd (ha.symm.trans (show ancB _ _ _ _ = true by kernel_rfl)) (by decide), trivial⟩ ?_
  simp only [go_sem, bld85]
  refine W_ret ⟨.inr rfl, [.agg q.good.cells], ?_, rfl, rfl, rfl⟩
  show (match loadA Try.prog 85 (.ptr ⟨S.length + 1, 1, 0⟩) _, resE Try.prog _ _ [] with | some v, some vs => some (v :: vs) | _, _ => none) = _
  rw [show loadA Try.prog 85 (.ptr ⟨S.length + 1, 1, 0⟩) _ = some (.agg q.good.cells) from yL (a := q.good) gt1]; rfl
theorem qgoodQ {M : Mem} {q : QidR} (g : ((-9223372036854775808 ≤ q.ver ∧ q.ver < 9223372036854775808) ∧ (-9223372036854775808 ≤ q.path ∧ q.path < 9223372036854775808))) : AC Try.prog 106 [.agg q.cells] M fun v M' => v = .agg q.good.cells ∧ M' = M := by obtain ⟨H, S⟩ := M; exact qgood106 g
theorem tgood61 {a : TellR} {vn vd : AV} (hn : QL H vn a.qids) (hd : BH H vd a.data) (g : a.Rng) : AC Try.prog 61 [.agg (a.cells vn vd)] ⟨H, S⟩ (fun v M' => ∃ H', M' = ⟨H', S⟩ ∧ UpdH no H H' ∧ TellO H' H.length v a.good) := by
  refine AC_of_WE Try.func61 rfl ?_
  simp only [Try.ntmps61, List.length_cons, List.length_nil, List.replicate, List.cons_append, List.nil_append, mem_enter]
  have c11 := fun b : TellR => tcells_st b hn.one.1 hd.one.1
  have c00 := fun b : TellR => tcells_st b (vn := .nilsl) (vd := .nilsl) rfl rfl
  (repeat refine W_seq ?_); refine W_regionT [] ?_
  simp only [go_sem, wboxL (c11 a), wallocL, List.nil_append, List.cons_append, List.length_nil, List.length_cons, Nat.zero_add, Nat.reduceAdd]
  (repeat refine W_seq ?_); refine W_regionD [] [22, 23] [0, 1, 2, 3, 4, 5, 6, 7, 8, 9, 10, 11, 12, 13, 14, 15, 16, 17, 18, 19, 20, 21, 22, 23] [0, 1, 3, 0, 8, 31, 0, 64, 255, 0, 512, 2047, 0, 4096, 16383, 0, 32768, 131071, 0, 262144, 1048575, 2097151, 0, 8388607] mixedM (by kernel_rfl) (by kernel_rfl) (by kernel_rfl) ?_
  simp only [listed, go_sem, tbld7]
  refine AD_read (v := .ptr ⟨S.length + 1, 0, 0⟩) (fun M' => M'.get (S.length + 1) 0 = some (Block.row ⟨90, 18, TellR.cells a vn vd, false, false⟩)) rfl rfl (fun M' h => by show pureV (fieldAddrA Try.prog 90 (.ptr ⟨S.length + 1, 0, 0⟩) 0 M') M' = _; rw [wa0 h]; rfl) (gt0) ?_
  simp only [go_sem, tbld7]
  refine AD_read (v := .int .i64 a.ty) (fun M' => M'.get (S.length + 1) 0 = some (Block.row ⟨90, 18, TellR.cells a vn vd, false, false⟩)) rfl rfl (fun M' h => by show pureV (loadA Try.prog 3 (.ptr ⟨S.length + 1, 0, 0⟩) M') M' = _; rw [wl0 h]; rfl) (gt0) ?_
  simp only [go_sem, tbld7]
  refine AD_quiet (v := .int .i64 (tkindOf a.ty)) rfl rfl rfl (fun M => tkindQ g.ty) ?_
  simp only [go_sem, tbld7]
  refine AD_read (v := .ptr ⟨S.length + 1, 0, 1⟩) (fun M' => M'.get (S.length + 1) 0 = some (Block.row ⟨90, 18, TellR.cells a vn vd, false, false⟩)) rfl rfl (fun M' h => by show pureV (fieldAddrA Try.prog 90 (.ptr ⟨S.length + 1, 0, 0⟩) 1 M') M' = _; rw [wa1 h]; rfl) (gt0) ?_
  simp only [go_sem, tbld7]
  refine AD_read (v := .int .i64 a.tag) (fun M' => M'.get (S.length + 1) 0 = some (Block.row ⟨90, 18, TellR.cells a vn vd, false, false⟩)) rfl rfl (fun M' h => by show pureV (loadA Try.prog 3 (.ptr ⟨S.length + 1, 0, 1⟩) M') M' = _; rw [wl1 h]; rfl) (gt0) ?_
  simp only [go_sem, tbld7]
  refine AD_quiet (v := .int .i64 (around a.tag 65536)) rfl rfl rfl (fun M => aroundQ g.tag (by decide)) ?_
  simp only [go_sem, tbld7]
  refine AD_read (v := .ptr ⟨S.length + 1, 0, 2⟩) (fun M' => M'.get (S.length + 1) 0 = some (Block.row ⟨90, 18, TellR.cells a vn vd, false, false⟩)) rfl rfl (fun M' h => by show pureV (fieldAddrA Try.prog 90 (.ptr ⟨S.length + 1, 0, 0⟩) 2 M') M' = _; rw [wa2 h]; rfl) (gt0) ?_
  simp only [go_sem, tbld7]
  refine AD_read (v := .int .i64 a.code) (fun M' => M'.get (S.length + 1) 0 = some (Block.row ⟨90, 18, TellR.cells a vn vd, false, false⟩)) rfl rfl (fun M' h => by show pureV (loadA Try.prog 3 (.ptr ⟨S.length + 1, 0, 2⟩) M') M' = _; rw [wl2 h]; rfl) (gt0) ?_
  simp only [go_sem, tbld7]
  refine AD_quiet (v := .int .i64 (around a.code 65536)) rfl rfl rfl (fun M => aroundQ g.code (by decide)) ?_
  simp only [go_sem, tbld7]
  refine AD_read (v := .ptr ⟨S.length + 1, 0, 3⟩) (fun M' => M'.get (S.length + 1) 0 = some (Block.row ⟨90, 18, TellR.cells a vn vd, false, false⟩)) rfl rfl (fun M' h => by show pureV (fieldAddrA Try.prog 90 (.ptr ⟨S.length + 1, 0, 0⟩) 3 M') M' = _; rw [wa3 h]; rfl) (gt0) ?_
  simp only [go_sem, tbld7]
  refine AD_read (v := .int .i64 a.msize) (fun M' => M'.get (S.length + 1) 0 = some (Block.row ⟨90, 18, TellR.cells a vn vd, false, false⟩)) rfl rfl (fun M' h => by show pureV (loadA Try.prog 3 (.ptr ⟨S.length + 1, 0, 3⟩) M') M' = _; rw [wl3 h]; rfl) (gt0) ?_
  simp only [go_sem, tbld7]
  refine AD_quiet (v := .int .i64 (around a.msize 4294967296)) rfl rfl rfl (fun M => low105Q g.msize) ?_
  simp only [go_sem, tbld7]
  refine AD_read (v := .ptr ⟨S.length + 1, 0, 4⟩) (fun M' => M'.get (S.length + 1) 0 = some (Block.row ⟨90, 18, TellR.cells a vn vd, false, false⟩)) rfl rfl (fun M' h => by show pureV (fieldAddrA Try.prog 90 (.ptr ⟨S.length + 1, 0, 0⟩) 4 M') M' = _; rw [wa4 h]; rfl) (gt0) ?_
  simp only [go_sem, tbld7]
  refine AD_read (v := .int .i64 a.iounit) (fun M' => M'.get (S.length + 1) 0 = some (Block.row ⟨90, 18, TellR.cells a vn vd, false, false⟩)) rfl rfl (fun M' h => by show pureV (loadA Try.prog 3 (.ptr ⟨S.length + 1, 0, 4⟩) M') M' = _; rw [wl4 h]; rfl) (gt0) ?_
  simp only [go_sem, tbld7]
  refine AD_quiet (v := .int .i64 (around a.iounit 4294967296)) rfl rfl rfl (fun M => low105Q g.iounit) ?_
  simp only [go_sem, tbld7]
  refine AD_read (v := .ptr ⟨S.length + 1, 0, 5⟩) (fun M' => M'.get (S.length + 1) 0 = some (Block.row ⟨90, 18, TellR.cells a vn vd, false, false⟩)) rfl rfl (fun M' h => by show pureV (fieldAddrA Try.prog 90 (.ptr ⟨S.length + 1, 0, 0⟩) 5 M') M' = _; rw [wa5 h]; rfl) (gt0) ?_
  simp only [go_sem, tbld7]
  refine AD_read (v := .int .i64 a.count) (fun M' => M'.get (S.length + 1) 0 = some (Block.row ⟨90, 18, TellR.cells a vn vd, false, false⟩)) rfl rfl (fun M' h => by show pureV (loadA Try.prog 3 (.ptr ⟨S.length + 1, 0, 5⟩) M') M' = _; rw [wl5 h]; rfl) (gt0) ?_
  simp only [go_sem, tbld7]
  refine AD_quiet (v := .int .i64 (around a.count 4294967296)) rfl rfl rfl (fun M => low105Q g.count) ?_
  simp only [go_sem, tbld7]
  refine AD_read (v := .ptr ⟨S.length + 1, 0, 7⟩) (fun M' => M'.get (S.length + 1) 0 = some (Block.row ⟨90, 18, TellR.cells a vn vd, false, false⟩)) rfl rfl (fun M' h => by show pureV (fieldAddrA Try.prog 90 (.ptr ⟨S.length + 1, 0, 0⟩) 7 M') M' = _; rw [wa7 h]; rfl) (gt0) ?_
  simp only [go_sem, tbld7]
  refine AD_read (v := .agg a.q.cells) (fun M' => M'.get (S.length + 1) 0 = some (Block.row ⟨90, 18, TellR.cells a vn vd, false, false⟩)) rfl rfl (fun M' h => by show pureV (loadA Try.prog 85 (.ptr ⟨S.length + 1, 0, 7⟩) M') M' = _; rw [wl7g85 h]; rfl) (gt0) ?_
  simp only [go_sem, tbld7]
  refine AD_quiet (v := .agg a.q.good.cells) rfl rfl rfl (fun M => qgoodQ ⟨g.q_ver, g.q_path⟩) ?_
  simp only [go_sem, tbld7]
  refine AD_loud (v := .ptr ⟨S.length + 1, 2, 0⟩) (M' := ⟨H, [Block.row ⟨90, 18, TellR.cells a vn vd, false, false⟩, Block.row ⟨90, 18, TellR.cells TellR.z .nilsl .nilsl, false, false⟩, Block.row ⟨90, 18, TellR.cells TellR.z .nilsl .nilsl, false, false⟩] :: S⟩) rfl (by show allocA Try.prog 90 false _ = _; exact wallocL) ⟨fun _ => gt0, fun _ => gt0, fun _ => gt0, fun _ => gt0, fun _ => gt0, fun _ => gt0, fun _ => gt0, fun _ => gt0, fun _ => gt0, fun _ => gt0, fun _ => gt0, fun _ => gt0, fun _ => gt0, fun _ => gt0, trivial⟩ ?_
  simp only [go_sem, tbld7]
  refine AD_loud (v := .undef) (M' := ⟨H, [Block.row ⟨90, 18, TellR.cells a vn vd, false, false⟩, Block.row ⟨90, 18, TellR.cells TellR.z .nilsl .nilsl, false, false⟩, Block.row ⟨90, 18, TellR.cells ⟨tkindOf a.ty, around a.tag 65536, around a.code 65536, around a.msize 4294967296, around a.iounit 4294967296, around a.count 4294967296, [], a.q.good, [], [], StatR.z⟩ .nilsl .nilsl, false, false⟩] :: S⟩) rfl (wS_2 (c00 _)) ⟨fun ha => absurd (ha.symm.trans (show ancB _ _ _ _ = true by kernel_rfl)) (by decide), fun ha => absurd (ha.symm.trans (show ancB _ _ _ _ = true by kernel_rfl)) (by decide), fun ha => absurd (ha.symm.trans (show ancB _ _ _ _ = true by kernel_rfl)) (by decide), fun ha => absurd (ha.symm.trans (show ancB _ _ _ _ = true by kernel_rfl)) (by decide), fun ha => absurd (ha.symm.trans (show ancB _ _ _ _ = true by kernel_rfl)) (by decide), fun ha => absurd (ha.symm.trans (show ancB _ _ _ _ = true by kernel_rfl)) (by decide), fun ha => absurd (ha.symm.trans (show ancB _ _ _ _ = true by kernel_rfl)) (by decide), fun ha => absurd (ha.symm.trans (show ancB _ _ _ _ = true by kernel_rfl)) (by decide), fun ha => absurd (ha.symm.trans (show ancB _ _ _ _ = true by kernel_rfl)) (by decide), fun ha => absurd (ha.symm.trans (show ancB _ _ _ _ = true by kernel_rfl)) (by decide), fun ha => absurd (ha.symm.trans (show ancB _ _ _ _ = true by kernel_rfl)) (by decide), fun ha => absurd (ha.symm.trans (show ancB _ _ _ _ = true by kernel_rfl)) (by decide), fun ha => absurd (ha.symm.trans (show ancB _ _ _ _ = true by kernel_rfl)) (by decide), fun ha => absurd (ha.symm.trans (show ancB _ _ _ _ = true by kernel_rfl)) (by decide), trivial⟩ ?_
  simp only [go_sem, tbld7]
  (repeat refine W_seq ?_); refine W_regionT [] ?_
  simp only [go_sem, wa6_0, wl6_0, wa6_2, ws6_2]
  refine AT_call rfl rfl (short89 (n := 40)) fun v M1 hd1 h1 => ?_
  obtain ⟨hv, hM⟩ := h1; subst hv; subst hM
  simp only [go_sem, wa6_0, wl6_0, wa6_2, ws6_2]
  (repeat refine W_seq ?_); refine W_regionT [] ?_
  simp only [go_sem]
  (repeat refine W_seq ?_)
  refine W_block (W_loop (L_inv (fun j env M' => ∃ (x5 x6 x7 x8 x9 x10 x11 x12 x13 x14 x15 x16 x17 x18 x19 x20 x21 x22 x23 x24 x25 x26 x27 x28 x29 x30 x31 x32 x33 x34 x35 x36 x37 x38 x39 x40 x41 x42 x43 x44 x45 x46 x47 x48 x49 x50 x51 x52 x53 x54 x55 x56 x57 x58 x59 x60 x61 x62 x63 x64 x65 x66 x67 x68 x69 x70 x71 x72 x73 x74 x75 x76 : AV) (v' : AV) (i : Nat) (G : List Block), env = [.agg (a.cells vn vd), .ptr ⟨S.length + 1, 0, 0⟩, .ptr ⟨S.length + 1, 1, 0⟩, .ptr ⟨S.length + 1, 2, 0⟩, .int .i64 i, x5, x6, x7, x8, x9, x10, x11, x12, x13, x14, x15, x16, x17, x18, x19, x20, x21, x22, x23, x24, x25, x26, x27, x28, x29, x30, x31, x32, x33, x34, x35, x36, x37, x38, x39, x40, x41, x42, x43, x44, x45, x46, x47, x48, x49, x50, x51, x52, x53, x54, x55, x56, x57, x58, x59, x60, x61, x62, x63, x64, x65, x66, x67, x68, x69, x70, x71, x72, x73, x74, x75, x76] ∧ i + j = min a.qids.length 8 ∧ M' = ⟨G, [Block.row ⟨90, 18, TellR.cells a vn vd, false, false⟩, Block.row ⟨90, 18, TellR.cells TellR.z .nilsl .nilsl, false, false⟩, Block.row ⟨90, 18, TellR.cells ⟨tkindOf a.ty, around a.tag 65536, around a.code 65536, around a.msize 4294967296, around a.iounit 4294967296, around a.count 4294967296, a.name.take 40, a.q.good, (a.qids.take i).map QidR.good, [], StatR.z⟩ v' .nilsl, false, false⟩] :: S⟩ ∧ UpdH no H G ∧ OH G v' 85 3 (((a.qids.take i).map QidR.good).flatMap QidR.cells) ((a.qids.take i).map QidR.good).length ∧ ∀ k, v'.loc k → H.length ≤ k) (fun j env M2 => ?_) (min a.qids.length 8) ?_))
  case refine_2 => exact ⟨_, _, _, _, _, _, _, _, _, _, _, _, _, _, _, _, _, _, _, _, _, _, _, _, _, _, _, _, _, _, _, _, _, _, _, _, _, _, _, _, _, _, _, _, _, _, _, _, _, _, _, _, _, _, _, _, _, _, _, _, _, _, _, _, _, _, _, _, _, _, _, _, .nilsl, 0, H, rfl, by omega, rfl, UpdH.refl, OH.nil, fun k h => h.elim⟩
  refine exE fun x5 => exE fun x6 => exE fun x7 => exE fun x8 => exE fun x9 => exE fun x10 => exE fun x11 => exE fun x12 => exE fun x13 => exE fun x14 => exE fun x15 => exE fun x16 => exE fun x17 => exE fun x18 => exE fun x19 => exE fun x20 => exE fun x21 => exE fun x22 => exE fun x23 => exE fun x24 => exE fun x25 => exE fun x26 => exE fun x27 => exE fun x28 => exE fun x29 => exE fun x30 => exE fun x31 => exE fun x32 => exE fun x33 => exE fun x34 => exE fun x35 => exE fun x36 => exE fun x37 => exE fun x38 => exE fun x39 => exE fun x40 => exE fun x41 => exE fun x42 => exE fun x43 => exE fun x44 => exE fun x45 => exE fun x46 => exE fun x47 => exE fun x48 => exE fun x49 => exE fun x50 => exE fun x51 => exE fun x52 => exE fun x53 => exE fun x54 => exE fun x55 => exE fun x56 => exE fun x57 => exE fun x58 => exE fun x59 => exE fun x60 => exE fun x61 => exE fun x62 => exE fun x63 => exE fun x64 => exE fun x65 => exE fun x66 => exE fun x67 => exE fun x68 => exE fun x69 => exE fun x70 => exE fun x71 => exE fun x72 => exE fun x73 => exE fun x74 => exE fun x75 => exE fun x76 => ?_
  rintro ⟨v', i, G, rfl, hij, rfl, uG, hoh, hlo⟩
  (repeat refine W_seq ?_)
  refine W_mid (fun env M' => ∃ (y5 y6 y7 y8 y9 y10 y11 y12 y13 y14 y15 y16 y17 y18 y19 y20 y21 y22 y23 y24 y25 y26 y27 y28 y29 y30 y31 y32 y33 y34 y35 y36 y37 y38 y40 y41 y42 y43 y44 y45 y46 y47 y48 y49 y50 y51 y52 y53 y54 y55 y56 y57 y58 y59 y60 y61 y62 y63 y64 y65 y66 y67 y68 y69 y70 y71 y72 y73 y74 y75 y76 : AV) (p : Bool), env = [.agg (a.cells vn vd), .ptr ⟨S.length + 1, 0, 0⟩, .ptr ⟨S.length + 1, 1, 0⟩, .ptr ⟨S.length + 1, 2, 0⟩, .int .i64 i, y5, y6, y7, y8, y9, y10, y11, y12, y13, y14, y15, y16, y17, y18, y19, y20, y21, y22, y23, y24, y25, y26, y27, y28, y29, y30, y31, y32, y33, y34, y35, y36, y37, y38, .bool p, y40, y41, y42, y43, y44, y45, y46, y47, y48, y49, y50, y51, y52, y53, y54, y55, y56, y57, y58, y59, y60, y61, y62, y63, y64, y65, y66, y67, y68, y69, y70, y71, y72, y73, y74, y75, y76] ∧ p = decide (i < a.qids.length ∧ i < 8) ∧ M' = ⟨G, [Block.row ⟨90, 18, TellR.cells a vn vd, false, false⟩, Block.row ⟨90, 18, TellR.cells TellR.z .nilsl .nilsl, false, false⟩, Block.row ⟨90, 18, TellR.cells ⟨tkindOf a.ty, around a.tag 65536, around a.code 65536, around a.msize 4294967296, around a.iounit 4294967296, around a.count 4294967296, a.name.take 40, a.q.good, (a.qids.take i).map QidR.good, [], StatR.z⟩ v' .nilsl, false, false⟩] :: S⟩) ?_ ?_
  · rcases (show i < a.qids.length ∨ ¬ i < a.qids.length by omega) with h | h
    · have hc : decide ((i : Int) < (a.qids.length : Int)) = true := by simp; omega
      (repeat refine W_seq ?_); refine W_regionT [] ?_
      simp only [go_sem, hc, (hn.new uG).len, wa0_0, wa1_0, wa2_0, wa3_0, wa4_0, wa5_0, wa6_0, wa7_0, wa8_0, wa9_0, wa10_0, wa88_12_0, wa88_15_0, wa88_16_0, wa88_17_0, wa85_7_0, wa85_8_0, wa85_9_0, wa85_13_0, wa85_14_0, wl0_0, wl1_0, wl2_0, wl3_0, wl4_0, wl5_0, wl6_0, wl7_0, wl8_0, wl9_0, wl10_0, wl11_0, wl12_0, wl13_0, wl14_0, wl15_0, wl16_0, wl17_0, wl7g85_0, wl12g85_0, wl12g88_0, wL_0]
      exact ⟨_, _, _, _, _, _, _, _, _, _, _, _, _, _, _, _, _, _, _, _, _, _, _, _, _, _, _, _, _, _, _, _, _, _, _, _, _, _, _, _, _, _, _, _, _, _, _, _, _, _, _, _, _, _, _, _, _, _, _, _, _, _, _, _, _, _, _, _, _, _, _, _, rfl, by rw [Bool.eq_iff_iff]; simp; omega, rfl⟩
    · have hc : decide ((i : Int) < (a.qids.length : Int)) = false := by simp; omega
      (repeat refine W_seq ?_); refine W_regionT [] ?_
      simp only [go_sem, hc, (hn.new uG).len, wa0_0, wa1_0, wa2_0, wa3_0, wa4_0, wa5_0, wa6_0, wa7_0, wa8_0, wa9_0, wa10_0, wa88_12_0, wa88_15_0, wa88_16_0, wa88_17_0, wa85_7_0, wa85_8_0, wa85_9_0, wa85_13_0, wa85_14_0, wl0_0, wl1_0, wl2_0, wl3_0, wl4_0, wl5_0, wl6_0, wl7_0, wl8_0, wl9_0, wl10_0, wl11_0, wl12_0, wl13_0, wl14_0, wl15_0, wl16_0, wl17_0, wl7g85_0, wl12g85_0, wl12g88_0, wL_0]
      exact ⟨_, _, _, _, _, _, _, _, _, _, _, _, _, _, _, _, _, _, _, _, _, _, _, _, _, _, _, _, _, _, _, _, _, _, _, _, _, _, _, _, _, _, _, _, _, _, _, _, _, _, _, _, _, _, _, _, _, _, _, _, _, _, _, _, _, _, _, _, _, _, _, _, rfl, by rw [Bool.eq_iff_iff]; simp; omega, rfl⟩
  refine fun env M' => ?_
  refine exE fun y5 => exE fun y6 => exE fun y7 => exE fun y8 => exE fun y9 => exE fun y10 => exE fun y11 => exE fun y12 => exE fun y13 => exE fun y14 => exE fun y15 => exE fun y16 => exE fun y17 => exE fun y18 => exE fun y19 => exE fun y20 => exE fun y21 => exE fun y22 => exE fun y23 => exE fun y24 => exE fun y25 => exE fun y26 => exE fun y27 => exE fun y28 => exE fun y29 => exE fun y30 => exE fun y31 => exE fun y32 => exE fun y33 => exE fun y34 => exE fun y35 => exE fun y36 => exE fun y37 => exE fun y38 => exE fun y40 => exE fun y41 => exE fun y42 => exE fun y43 => exE fun y44 => exE fun y45 => exE fun y46 => exE fun y47 => exE fun y48 => exE fun y49 => exE fun y50 => exE fun y51 => exE fun y52 => exE fun y53 => exE fun y54 => exE fun y55 => exE fun y56 => exE fun y57 => exE fun y58 => exE fun y59 => exE fun y60 => exE fun y61 => exE fun y62 => exE fun y63 => exE fun y64 => exE fun y65 => exE fun y66 => exE fun y67 => exE fun y68 => exE fun y69 => exE fun y70 => exE fun y71 => exE fun y72 => exE fun y73 => exE fun y74 => exE fun y75 => exE fun y76 => ?_
  rintro ⟨p, rfl, rfl, rfl⟩
  (repeat refine W_seq ?_)
  refine W_cond_if rfl (fun hb => ?_) (fun hb => ?_)
  · have hi : i < a.qids.length ∧ i < 8 := by simpa using hb
    refine W_skip ?_
    simp only [go_sem]
    (repeat refine W_seq ?_)
    refine W_block ?_
    obtain ⟨v2, G2, hap, oh2, u2, l2⟩ := q_snoc (S := [Block.row ⟨90, 18, TellR.cells a vn vd, false, false⟩, Block.row ⟨90, 18, TellR.cells TellR.z .nilsl .nilsl, false, false⟩, Block.row ⟨90, 18, TellR.cells ⟨tkindOf a.ty, around a.tag 65536, around a.code 65536, around a.msize 4294967296, around a.iounit 4294967296, around a.count 4294967296, a.name.take 40, a.q.good, (a.qids.take i).map QidR.good, [], StatR.z⟩ v' .nilsl, false, false⟩] :: S) (q := a.qids[i].good) hoh (by simp; omega)
    (repeat refine W_seq ?_); refine W_regionD [50, 51] [8, 9, 11] [0, 1, 2, 3, 4, 5, 6, 7, 8, 9, 10, 11] [0, 1, 0, 4, 0, 28, 60, 124, 252, 511, 1023, 2047] mixedM (by kernel_rfl) (by kernel_rfl) (by kernel_rfl) ?_
    simp only [listed, go_sem]
    refine AD_read (v := .ptr ⟨S.length + 1, 2, 10⟩) (fun M' => M'.get (S.length + 1) 2 = some (Block.row ⟨90, 18, TellR.cells ⟨tkindOf a.ty, around a.tag 65536, around a.code 65536, around a.msize 4294967296, around a.iounit 4294967296, around a.count 4294967296, a.name.take 40, a.q.good, (a.qids.take i).map QidR.good, [], StatR.z⟩ v' .nilsl, false, false⟩)) rfl rfl (fun M' h => by show pureV (fieldAddrA Try.prog 90 (.ptr ⟨S.length + 1, 2, 0⟩) 8 M') M' = _; rw [wa8 h]; rfl) (gt2) ?_
    simp only [go_sem]
    refine AD_read (v := v') (fun M' => M'.get (S.length + 1) 2 = some (Block.row ⟨90, 18, TellR.cells ⟨tkindOf a.ty, around a.tag 65536, around a.code 65536, around a.msize 4294967296, around a.iounit 4294967296, around a.count 4294967296, a.name.take 40, a.q.good, (a.qids.take i).map QidR.good, [], StatR.z⟩ v' .nilsl, false, false⟩)) rfl rfl (fun M' h => by show pureV (loadA Try.prog 86 (.ptr ⟨S.length + 1, 2, 10⟩) M') M' = _; rw [wl10 h]; rfl) (gt2) ?_
    simp only [go_sem]
    refine AD_read (v := .ptr ⟨S.length + 1, 0, 10⟩) (fun M' => M'.get (S.length + 1) 0 = some (Block.row ⟨90, 18, TellR.cells a vn vd, false, false⟩)) rfl rfl (fun M' h => by show pureV (fieldAddrA Try.prog 90 (.ptr ⟨S.length + 1, 0, 0⟩) 8 M') M' = _; rw [wa8 h]; rfl) (gt0) ?_
    simp only [go_sem]
    refine AD_read (v := vn) (fun M' => M'.get (S.length + 1) 0 = some (Block.row ⟨90, 18, TellR.cells a vn vd, false, false⟩)) rfl rfl (fun M' h => by show pureV (loadA Try.prog 86 (.ptr ⟨S.length + 1, 0, 10⟩) M') M' = _; rw [wl10 h]; rfl) (gt0) ?_
    simp only [go_sem]
    refine AD_read (v := idm 3 vn i) (fun M' => indexAddrA Try.prog 86 vn (.int .i64 i) M' = some (idm 3 vn i) ∧ loadA Try.prog 85 (idm 3 vn i) M' = some (.agg a.qids[i].cells)) rfl rfl (fun M' h => by show pureV (indexAddrA Try.prog 86 vn (.int .i64 i) M') M' = _; rw [h.1]; rfl) (at86 (hn.new uG) hi.1) ?_
    simp only [go_sem]
    refine AD_read (v := .agg a.qids[i].cells) (fun M' => indexAddrA Try.prog 86 vn (.int .i64 i) M' = some (idm 3 vn i) ∧ loadA Try.prog 85 (idm 3 vn i) M' = some (.agg a.qids[i].cells)) rfl rfl (fun M' h => by show pureV (loadA Try.prog 85 (idm 3 vn i) M') M' = _; rw [h.2]; rfl) (at86 (hn.new uG) hi.1) ?_
    simp only [go_sem]
    refine AD_quiet (v := .agg a.qids[i].good.cells) rfl rfl rfl (fun M => qgoodQ (g.qids _ (List.getElem_mem hi.1))) ?_
    simp only [go_sem]
    refine AD_loud (v := .sl ⟨0, G.length, 0⟩ 1 (some 1)) (M' := ⟨G ++ [.row ⟨85, 3, QidR.cells a.qids[i].good, false, false⟩], [Block.row ⟨90, 18, TellR.cells a vn vd, false, false⟩, Block.row ⟨90, 18, TellR.cells TellR.z .nilsl .nilsl, false, false⟩, Block.row ⟨90, 18, TellR.cells ⟨tkindOf a.ty, around a.tag 65536, around a.code 65536, around a.msize 4294967296, around a.iounit 4294967296, around a.count 4294967296, a.name.take 40, a.q.good, (a.qids.take i).map QidR.good, [], StatR.z⟩ v' .nilsl, false, false⟩] :: S⟩) rfl (by show buildSliceA Try.prog 86 true 1 [(0, .agg a.qids[i].good.cells)] _ = _; exact one86) ⟨fun ha => absurd (ha.symm.trans (show ancB _ _ _ _ = true by kernel_rfl)) (by decide), fun ha => absurd (ha.symm.trans (show ancB _ _ _ _ = true by kernel_rfl)) (by decide), fun ha => absurd (ha.symm.trans (show ancB _ _ _ _ = true by kernel_rfl)) (by decide), fun ha => absurd (ha.symm.trans (show ancB _ _ _ _ = true by kernel_rfl)) (by decide), fun _ => gt2, fun _ => gt2, trivial⟩ ?_
    simp only [go_sem]
    refine AD_loud (v := v2) (M' := ⟨G2, [Block.row ⟨90, 18, TellR.cells a vn vd, false, false⟩, Block.row ⟨90, 18, TellR.cells TellR.z .nilsl .nilsl, false, false⟩, Block.row ⟨90, 18, TellR.cells ⟨tkindOf a.ty, around a.tag 65536, around a.code 65536, around a.msize 4294967296, around a.iounit 4294967296, around a.count 4294967296, a.name.take 40, a.q.good, (a.qids.take i).map QidR.good, [], StatR.z⟩ v' .nilsl, false, false⟩] :: S⟩) rfl (hap) ⟨fun ha => absurd (ha.symm.trans (show ancB _ _ _ _ = true by kernel_rfl)) (by decide), fun ha => absurd (ha.symm.trans (show ancB _ _ _ _ = true by kernel_rfl)) (by decide), fun ha => absurd (ha.symm.trans (show ancB _ _ _ _ = true by kernel_rfl)) (by decide), fun ha => absurd (ha.symm.trans (show ancB _ _ _ _ = true by kernel_rfl)) (by decide), fun ha => absurd (ha.symm.trans (show ancB _ _ _ _ = true by kernel_rfl)) (by decide), fun ha => absurd (ha.symm.trans (show ancB _ _ _ _ = true by kernel_rfl)) (by decide), trivial⟩ ?_
    simp only [go_sem]
    refine AD_read (v := .ptr ⟨S.length + 1, 2, 10⟩) (fun M' => M'.get (S.length + 1) 2 = some (Block.row ⟨90, 18, TellR.cells ⟨tkindOf a.ty, around a.tag 65536, around a.code 65536, around a.msize 4294967296, around a.iounit 4294967296, around a.count 4294967296, a.name.take 40, a.q.good, (a.qids.take i).map QidR.good, [], StatR.z⟩ v' .nilsl, false, false⟩)) rfl rfl (fun M' h => by show pureV (fieldAddrA Try.prog 90 (.ptr ⟨S.length + 1, 2, 0⟩) 8 M') M' = _; rw [wa8 h]; rfl) (gt2) ?_
    simp only [go_sem]
    refine AD_loud (v := .undef) (M' := ⟨G2, [Block.row ⟨90, 18, TellR.cells a vn vd, false, false⟩, Block.row ⟨90, 18, TellR.cells TellR.z .nilsl .nilsl, false, false⟩, Block.row ⟨90, 18, TellR.cells ⟨tkindOf a.ty, around a.tag 65536, around a.code 65536, around a.msize 4294967296, around a.iounit 4294967296, around a.count 4294967296, a.name.take 40, a.q.good, (a.qids.take i).map QidR.good ++ [a.qids[i].good], [], StatR.z⟩ v2 .nilsl, false, false⟩] :: S⟩) rfl (ws10_2 (OHQ oh2).1 (OHQ oh2).2) ⟨fun ha => absurd (ha.symm.trans (show ancB _ _ _ _ = true by kernel_rfl)) (by decide), fun ha => absurd (ha.symm.trans (show ancB _ _ _ _ = true by kernel_rfl)) (by decide), fun ha => absurd (ha.symm.trans (show ancB _ _ _ _ = true by kernel_rfl)) (by decide), fun ha => absurd (ha.symm.trans (show ancB _ _ _ _ = true by kernel_rfl)) (by decide), fun ha => absurd (ha.symm.trans (show ancB _ _ _ _ = true by kernel_rfl)) (by decide), fun ha => absurd (ha.symm.trans (show ancB _ _ _ _ = true by kernel_rfl)) (by decide), fun ha => absurd (ha.symm.trans (show ancB _ _ _ _ = true by kernel_rfl)) (by decide), trivial⟩ ?_
    simp only [go_sem]
    (repeat refine W_seq ?_); refine W_regionT [] ?_
    simp only [go_sem, show (i : Int) + 1 = ((i + 1 : Nat) : Int) from rfl, wrap_i64 (n := ((i + 1 : Nat) : Int)) (by omega) (by omega)]
    refine ⟨j - 1, by omega, _, _, _, _, _, _, _, _, _, _, _, _, _, _, _, _, _, _, _, _, _, _, _, _, _, _, _, _, _, _, _, _, _, _, _, _, _, _, _, _, _, _, _, _, _, _, _, _, _, _, _, _, _, _, _, _, _, _, _, _, _, _, _, _, _, _, _, _, _, _, _, _, v2, i + 1, G2, rfl, by omega, by rw [snocQ hi.1], uG.then u2 (fun k hk h => by have := hlo k h; omega), by rw [snocQ hi.1]; exact oh2, fun k hk => (l2 k hk).elim (hlo k) (fun h => Nat.le_trans uG.l h)⟩
  · have hi : i = min a.qids.length 8 := by simp at hb; omega
    subst hi
    (repeat refine W_seq ?_)
    refine W_exit ?_
    simp only [go_sem]
    rw [take_min] at hoh
    (repeat refine W_seq ?_); refine W_regionT [] ?_
    simp only [go_sem, wa9_0, wl11_0, wa9_2]
    refine AT_call rfl rfl (fewB (n := 30) (hd.new uG) (by decide)) fun v M1 hd1 h1 => ?_
    obtain ⟨G3, rfl, u3, b3, l3⟩ := h1
    rename AV => vd3
    have c3 := fun b : TellR => tcells_st b (OHQ hoh).1 b3.one.1
    simp only [go_sem, wa9_2, take_min, ws11_2 b3.one.1 b3.one.2]
    (repeat refine W_seq ?_); refine W_regionD [] [18] [0, 1, 2, 3, 4, 5, 6, 7, 8, 9, 10, 11, 12, 13, 14, 15, 16, 17, 18] [0, 1, 3, 7, 0, 16, 48, 127, 0, 256, 768, 2047, 0, 4096, 12288, 32767, 65535, 131071, 262143] mixedM (by kernel_rfl) (by kernel_rfl) (by kernel_rfl) ?_
    simp only [listed, go_sem, bld88']
    refine AD_read (v := .ptr ⟨S.length + 1, 0, 12⟩) (fun M' => M'.get (S.length + 1) 0 = some (Block.row ⟨90, 18, TellR.cells a vn vd, false, false⟩)) rfl rfl (fun M' h => by show pureV (fieldAddrA Try.prog 90 (.ptr ⟨S.length + 1, 0, 0⟩) 10 M') M' = _; rw [wa10 h]; rfl) (gt0) ?_
    simp only [go_sem, bld88']
    refine AD_read (v := .ptr ⟨S.length + 1, 0, 12⟩) (fun M' => M'.get (S.length + 1) 0 = some (Block.row ⟨90, 18, TellR.cells a vn vd, false, false⟩)) rfl rfl (fun M' h => by show pureV (fieldAddrA Try.prog 88 (.ptr ⟨S.length + 1, 0, 12⟩) 0 M') M' = _; rw [wa88_12 h]; rfl) (gt0) ?_
    simp only [go_sem, bld88']
    refine AD_read (v := .agg a.s.q.cells) (fun M' => M'.get (S.length + 1) 0 = some (Block.row ⟨90, 18, TellR.cells a vn vd, false, false⟩)) rfl rfl (fun M' h => by show pureV (loadA Try.prog 85 (.ptr ⟨S.length + 1, 0, 12⟩) M') M' = _; rw [wl12g85 h]; rfl) (gt0) ?_
    simp only [go_sem, bld88']
    refine AD_quiet (v := .agg a.s.q.good.cells) rfl rfl rfl (fun M => qgoodQ ⟨g.s_q_ver, g.s_q_path⟩) ?_
    simp only [go_sem, bld88']
    refine AD_read (v := .ptr ⟨S.length + 1, 0, 12⟩) (fun M' => M'.get (S.length + 1) 0 = some (Block.row ⟨90, 18, TellR.cells a vn vd, false, false⟩)) rfl rfl (fun M' h => by show pureV (fieldAddrA Try.prog 90 (.ptr ⟨S.length + 1, 0, 0⟩) 10 M') M' = _; rw [wa10 h]; rfl) (gt0) ?_
    simp only [go_sem, bld88']
    refine AD_read (v := .ptr ⟨S.length + 1, 0, 15⟩) (fun M' => M'.get (S.length + 1) 0 = some (Block.row ⟨90, 18, TellR.cells a vn vd, false, false⟩)) rfl rfl (fun M' h => by show pureV (fieldAddrA Try.prog 88 (.ptr ⟨S.length + 1, 0, 12⟩) 1 M') M' = _; rw [wa88_15 h]; rfl) (gt0) ?_
    simp only [go_sem, bld88']
    refine AD_read (v := .int .i64 a.s.mode) (fun M' => M'.get (S.length + 1) 0 = some (Block.row ⟨90, 18, TellR.cells a vn vd, false, false⟩)) rfl rfl (fun M' h => by show pureV (loadA Try.prog 3 (.ptr ⟨S.length + 1, 0, 15⟩) M') M' = _; rw [wl15 h]; rfl) (gt0) ?_
    simp only [go_sem, bld88']
    refine AD_quiet (v := .int .i64 (around a.s.mode 4294967296)) rfl rfl rfl (fun M => low105Q g.s_mode) ?_
    simp only [go_sem, bld88']
    refine AD_read (v := .ptr ⟨S.length + 1, 0, 12⟩) (fun M' => M'.get (S.length + 1) 0 = some (Block.row ⟨90, 18, TellR.cells a vn vd, false, false⟩)) rfl rfl (fun M' h => by show pureV (fieldAddrA Try.prog 90 (.ptr ⟨S.length + 1, 0, 0⟩) 10 M') M' = _; rw [wa10 h]; rfl) (gt0) ?_
    simp only [go_sem, bld88']
    refine AD_read (v := .ptr ⟨S.length + 1, 0, 16⟩) (fun M' => M'.get (S.length + 1) 0 = some (Block.row ⟨90, 18, TellR.cells a vn vd, false, false⟩)) rfl rfl (fun M' h => by show pureV (fieldAddrA Try.prog 88 (.ptr ⟨S.length + 1, 0, 12⟩) 2 M') M' = _; rw [wa88_16 h]; rfl) (gt0) ?_
    simp only [go_sem, bld88']
    refine AD_read (v := .int .i64 a.s.size) (fun M' => M'.get (S.length + 1) 0 = some (Block.row ⟨90, 18, TellR.cells a vn vd, false, false⟩)) rfl rfl (fun M' h => by show pureV (loadA Try.prog 3 (.ptr ⟨S.length + 1, 0, 16⟩) M') M' = _; rw [wl16 h]; rfl) (gt0) ?_
    simp only [go_sem, bld88']
    refine AD_quiet (v := .int .i64 (around a.s.size 4611686018427387905)) rfl rfl rfl (fun M => high107Q g.s_size) ?_
    simp only [go_sem, bld88']
    refine AD_read (v := .ptr ⟨S.length + 1, 0, 12⟩) (fun M' => M'.get (S.length + 1) 0 = some (Block.row ⟨90, 18, TellR.cells a vn vd, false, false⟩)) rfl rfl (fun M' h => by show pureV (fieldAddrA Try.prog 90 (.ptr ⟨S.length + 1, 0, 0⟩) 10 M') M' = _; rw [wa10 h]; rfl) (gt0) ?_
    simp only [go_sem, bld88']
    refine AD_read (v := .ptr ⟨S.length + 1, 0, 17⟩) (fun M' => M'.get (S.length + 1) 0 = some (Block.row ⟨90, 18, TellR.cells a vn vd, false, false⟩)) rfl rfl (fun M' h => by show pureV (fieldAddrA Try.prog 88 (.ptr ⟨S.length + 1, 0, 12⟩) 3 M') M' = _; rw [wa88_17 h]; rfl) (gt0) ?_
    simp only [go_sem, bld88']
    refine AD_read (v := .str a.s.name) (fun M' => M'.get (S.length + 1) 0 = some (Block.row ⟨90, 18, TellR.cells a vn vd, false, false⟩)) rfl rfl (fun M' h => by show pureV (loadA Try.prog 9 (.ptr ⟨S.length + 1, 0, 17⟩) M') M' = _; rw [wl17 h]; rfl) (gt0) ?_
    simp only [go_sem, bld88']
    refine AD_quiet (v := .str (a.s.name.take 40)) rfl rfl rfl (fun M => shortQ (n := 40)) ?_
    simp only [go_sem, bld88']
    refine AD_read (v := .ptr ⟨S.length + 1, 2, 12⟩) (fun M' => M'.get (S.length + 1) 2 = some (Block.row ⟨90, 18, TellR.cells ⟨tkindOf a.ty, around a.tag 65536, around a.code 65536, around a.msize 4294967296, around a.iounit 4294967296, around a.count 4294967296, a.name.take 40, a.q.good, (a.qids.take 8).map QidR.good, a.data.take 30, StatR.z⟩ v' vd3, false, false⟩)) rfl rfl (fun M' h => by show pureV (fieldAddrA Try.prog 90 (.ptr ⟨S.length + 1, 2, 0⟩) 10 M') M' = _; rw [wa10 h]; rfl) (gt2) ?_
    simp only [go_sem, bld88']
    refine AD_loud (v := .undef) (M' := ⟨G3, [Block.row ⟨90, 18, TellR.cells a vn vd, false, false⟩, Block.row ⟨90, 18, TellR.cells TellR.z .nilsl .nilsl, false, false⟩, Block.row ⟨90, 18, TellR.cells ⟨tkindOf a.ty, around a.tag 65536, around a.code 65536, around a.msize 4294967296, around a.iounit 4294967296, around a.count 4294967296, a.name.take 40, a.q.good, (a.qids.take 8).map QidR.good, a.data.take 30, ⟨a.s.q.good, around a.s.mode 4294967296, around a.s.size 4611686018427387905, a.s.name.take 40⟩⟩ v' vd3, false, false⟩] :: S⟩) rfl (ws12g88_2 (a := ⟨tkindOf a.ty, around a.tag 65536, around a.code 65536, around a.msize 4294967296, around a.iounit 4294967296, around a.count 4294967296, a.name.take 40, a.q.good, (a.qids.take 8).map QidR.good, a.data.take 30, StatR.z⟩) (b := ⟨a.s.q.good, around a.s.mode 4294967296, around a.s.size 4611686018427387905, a.s.name.take 40⟩)) ⟨fun ha => absurd (ha.symm.trans (show ancB _ _ _ _ = true by kernel_rfl)) (by decide), fun ha => absurd (ha.symm.trans (show ancB _ _ _ _ = true by kernel_rfl)) (by decide), fun ha => absurd (ha.symm.trans (show ancB _ _ _ _ = true by kernel_rfl)) (by decide), fun ha => absurd (ha.symm.trans (show ancB _ _ _ _ = true by kernel_rfl)) (by decide), fun ha => absurd (ha.symm.trans (show ancB _ _ _ _ = true by kernel_rfl)) (by decide), fun ha => absurd (ha.symm.trans (show ancB _ _ _ _ = true by kernel_rfl)) (by decide), fun ha => absurd (ha.symm.trans (show ancB _ _ _ _ = true by kernel_rfl)) (by decide), fun ha => absurd (ha.symm.trans (show ancB _ _ _ _ = true by kernel_rfl)) (by decide), fun ha => absurd (ha.symm.trans (show ancB _ _ _ _ = true by kernel_rfl)) (by decide), fun ha => absurd (ha.symm.trans (show ancB _ _ _ _ = true by kernel_rfl)) (by decide), fun ha => absurd (ha.symm.trans (show ancB _ _ _ _ = true by kernel_rfl)) (by decide), fun ha => absurd (ha.symm.trans (show ancB _ _ _ _ = true by kernel_rfl)) (by decide), fun ha => absurd (ha.symm.trans (show ancB _ _ _ _ = true by kernel_rfl)) (by decide), trivial⟩ ?_
    simp only [go_sem, bld88']
    (repeat refine W_seq ?_); refine W_regionT [] ?_
    simp only [go_sem, wL_2]
    refine AT_call rfl rfl (town108 (a := a.raw) (oh_ql (hoh.new u3)) b3) fun v M1 hd1 h1 => ?_
    obtain ⟨hv, hM⟩ := h1; subst hv; subst hM
    have oh4 := TellR.own_oh (a := a.raw) (hoh.new u3)
    have bd4 := TellR.own_bh (a := a.raw) b3
    have c4 := tcells_st a.raw.own (OHQ oh4).1 bd4.one.1
    simp only [go_sem, wS_1 c4]
    refine W_ret ⟨.inr rfl, [.agg (TellR.cells a.raw.own (a.raw.ownN v') (a.raw.ownD vd3))], ?_, ?_, G3, rfl, uG.then u3 (fun _ _ h => h), _, _, rfl, oh4, bd4, fun k hk => hlo k (TellR.ownN_loc hk), fun k hk => Nat.le_trans uG.l (l3 k (TellR.ownD_loc hk)), fun k hk hk2 => by have := RH.lt hoh.rh (TellR.ownN_loc hk); have := l3 k (TellR.ownD_loc hk2); omega⟩
    · show (match loadA Try.prog 90 (.ptr ⟨S.length + 1, 1, 0⟩) _, resE Try.prog _ _ [] with | some v, some vs => some (v :: vs) | _, _ => none) = _
      rw [wL_1]; rfl
    · show (AV.agg _).lev0 = true
      have e : lev0s (TellR.cells a.raw.own (a.raw.ownN v') (a.raw.ownD vd3)) = true := tcells_lev (RH.lev0 oh4.rh) bd4.lev0'
      simp only [AV.lev0, e]
theorem tgood_short {a : TellR} : a.good.qids.length ≤ 8 := by
  show (if tkind a.raw.ty = 5 then a.raw.qids else []).length ≤ 8
  split
  · simp [TellR.raw]; omega
  · simp
theorem todd62 {a : TellR} {vn vd : AV} {w n : Int} {s : List UInt8} (hn : QL H vn a.qids) (hd : BH H vd a.data) (g : a.Rng) (hw : -9223372036854775808 ≤ w ∧ w < 9223372036854775808) : AC Try.prog 62 [.agg (a.cells vn vd), .int .i64 w, .int .i64 n, .str s] ⟨H, S⟩ (fun v M' => ∃ H', M' = ⟨H', S⟩ ∧ UpdH no H H' ∧ TellO H' H.length v (a.odd w n s)) := by
  refine AC_of_WE Try.func62 rfl ?_
  simp only [Try.ntmps62, List.length_cons, List.length_nil, List.replicate, List.cons_append, List.nil_append, mem_enter]
  have c11 := fun b : TellR => tcells_st b hn.one.1 hd.one.1
  (repeat refine W_seq ?_); refine W_regionT [] ?_
  simp only [go_sem, wboxL (c11 a), wallocL, List.nil_append, List.cons_append, List.length_nil, List.length_cons, Nat.zero_add, Nat.reduceAdd]
  (repeat refine W_seq ?_); refine W_regionT [] ?_
  simp only [go_sem, wa0_0, wa1_0, wa2_0, wa3_0, wa4_0, wa5_0, wa6_0, wa7_0, wa8_0, wa9_0, wa10_0, wa88_12_0, wa88_15_0, wa88_16_0, wa88_17_0, wa85_7_0, wa85_8_0, wa85_9_0, wa85_13_0, wa85_14_0, wl0_0, wl1_0, wl2_0, wl3_0, wl4_0, wl5_0, wl6_0, wl7_0, wl8_0, wl9_0, wl10_0, wl11_0, wl12_0, wl13_0, wl14_0, wl15_0, wl16_0, wl17_0, wl7g85_0, wl12g85_0, wl12g88_0, wL_0]
  refine AT_call rfl rfl (tgood61 hn hd g) fun v M1 hd1 h1 => ?_
  obtain ⟨G, rfl, uG, wn, wd, rfl, on, bd, ln, ld, ls⟩ := h1
  have c2 := fun b : TellR => tcells_st b (OHQ on).1 bd.one.1
  simp only [go_sem, wallocL, wS_2 (c2 _), List.nil_append, List.cons_append, List.length_nil, List.length_cons, Nat.zero_add, Nat.reduceAdd]
  (repeat refine W_seq ?_); refine W_regionT [] ?_
  simp only [go_sem]
  refine AT_call rfl rfl (aroundF hw.1 hw.2 (by decide)) fun v M1 hd1 h1 => ?_
  obtain ⟨hv, hM⟩ := h1; subst hv; subst hM
  simp only [go_sem]
  (repeat refine W_seq ?_)
  refine W_block ?_
  (repeat refine W_seq ?_); refine W_regionT [] ?_
  simp only [go_sem]
  (repeat refine W_seq ?_)
  refine W_cond_if rfl (fun hb => ?_) (fun hb => ?_)
  · have hk : around w 14 = 0 := by simpa using hb
    (repeat refine W_seq ?_); refine W_regionT [] ?_
    simp only [go_sem, wa0_2, ws0_2]
    (repeat refine W_seq ?_); refine W_regionT [] ?_
    simp only [go_sem, wL_2, wS_1 (c2 _)]
    have ho : a.odd w n s = { a.good with ty := n } := by unfold TellR.odd; simp [hk]
    refine W_ret ⟨.inr rfl, [.agg (TellR.cells { a.good with ty := n } wn wd)], ?_, ?_, G, rfl, uG, ?_⟩
    · show (match loadA Try.prog 90 (.ptr ⟨S.length + 1, 1, 0⟩) _, resE Try.prog _ _ [] with | some v, some vs => some (v :: vs) | _, _ => none) = _
      rw [wL_1]; rfl
    · show (AV.agg _).lev0 = true
      have e : lev0s (TellR.cells { a.good with ty := n } wn wd) = true := tcells_lev (RH.lev0 on.rh) bd.lev0'
      simp only [AV.lev0, e]
    · rw [ho]
      exact ⟨wn, wd, rfl, on, bd, ln, ld, ls⟩
  · have n0 : ¬ around w 14 = 0 := by simpa using hb
    (repeat refine W_seq ?_); refine W_regionT [] ?_
    simp only [go_sem]
    (repeat refine W_seq ?_)
    refine W_cond_if rfl (fun hb => ?_) (fun hb => ?_)
    · have hk : around w 14 = 1 := by simpa using hb
      (repeat refine W_seq ?_); refine W_regionT [] ?_
      simp only [go_sem, wa1_2, ws1_2]
      (repeat refine W_seq ?_); refine W_regionT [] ?_
      simp only [go_sem, wL_2, wS_1 (c2 _)]
      have ho : a.odd w n s = { a.good with tag := n } := by unfold TellR.odd; simp [hk]
      refine W_ret ⟨.inr rfl, [.agg (TellR.cells { a.good with tag := n } wn wd)], ?_, ?_, G, rfl, uG, ?_⟩
      · show (match loadA Try.prog 90 (.ptr ⟨S.length + 1, 1, 0⟩) _, resE Try.prog _ _ [] with | some v, some vs => some (v :: vs) | _, _ => none) = _
        rw [wL_1]; rfl
      · show (AV.agg _).lev0 = true
        have e : lev0s (TellR.cells { a.good with tag := n } wn wd) = true := tcells_lev (RH.lev0 on.rh) bd.lev0'
        simp only [AV.lev0, e]
      · rw [ho]
        exact ⟨wn, wd, rfl, on, bd, ln, ld, ls⟩
    · have n1 : ¬ around w 14 = 1 := by simpa using hb
      (repeat refine W_seq ?_); refine W_regionT [] ?_
      simp only [go_sem]
      (repeat refine W_seq ?_)
      refine W_cond_if rfl (fun hb => ?_) (fun hb => ?_)
      · have hk : around w 14 = 2 := by simpa using hb
        (repeat refine W_seq ?_); refine W_regionT [] ?_
        simp only [go_sem, wa2_2, ws2_2]
        (repeat refine W_seq ?_); refine W_regionT [] ?_
        simp only [go_sem, wL_2, wS_1 (c2 _)]
        have ho : a.odd w n s = { a.good with code := n } := by unfold TellR.odd; simp [hk]
        refine W_ret ⟨.inr rfl, [.agg (TellR.cells { a.good with code := n } wn wd)], ?_, ?_, G, rfl, uG, ?_⟩
        · show (match loadA Try.prog 90 (.ptr ⟨S.length + 1, 1, 0⟩) _, resE Try.prog _ _ [] with | some v, some vs => some (v :: vs) | _, _ => none) = _
          rw [wL_1]; rfl
        · show (AV.agg _).lev0 = true
          have e : lev0s (TellR.cells { a.good with code := n } wn wd) = true := tcells_lev (RH.lev0 on.rh) bd.lev0'
          simp only [AV.lev0, e]
        · rw [ho]
          exact ⟨wn, wd, rfl, on, bd, ln, ld, ls⟩
      · have n2 : ¬ around w 14 = 2 := by simpa using hb
        (repeat refine W_seq ?_); refine W_regionT [] ?_
        simp only [go_sem]
        (repeat refine W_seq ?_)
        refine W_cond_if rfl (fun hb => ?_) (fun hb => ?_)
        · have hk : around w 14 = 3 := by simpa using hb
          (repeat refine W_seq ?_); refine W_regionT [] ?_
          simp only [go_sem, wa3_2, ws3_2]
          (repeat refine W_seq ?_); refine W_regionT [] ?_
          simp only [go_sem, wL_2, wS_1 (c2 _)]
          have ho : a.odd w n s = { a.good with msize := n } := by unfold TellR.odd; simp [hk]
          refine W_ret ⟨.inr rfl, [.agg (TellR.cells { a.good with msize := n } wn wd)], ?_, ?_, G, rfl, uG, ?_⟩
          · show (match loadA Try.prog 90 (.ptr ⟨S.length + 1, 1, 0⟩) _, resE Try.prog _ _ [] with | some v, some vs => some (v :: vs) | _, _ => none) = _
            rw [wL_1]; rfl
          · show (AV.agg _).lev0 = true
            have e : lev0s (TellR.cells { a.good with msize := n } wn wd) = true := tcells_lev (RH.lev0 on.rh) bd.lev0'
            simp only [AV.lev0, e]
          · rw [ho]
            exact ⟨wn, wd, rfl, on, bd, ln, ld, ls⟩
        · have n3 : ¬ around w 14 = 3 := by simpa using hb
          (repeat refine W_seq ?_); refine W_regionT [] ?_
          simp only [go_sem]
          (repeat refine W_seq ?_)
          refine W_cond_if rfl (fun hb => ?_) (fun hb => ?_)
          · have hk : around w 14 = 4 := by simpa using hb
            (repeat refine W_seq ?_); refine W_regionT [] ?_
            simp only [go_sem, wa4_2, ws4_2]
            (repeat refine W_seq ?_); refine W_regionT [] ?_
            simp only [go_sem, wL_2, wS_1 (c2 _)]
            have ho : a.odd w n s = { a.good with iounit := n } := by unfold TellR.odd; simp [hk]
            refine W_ret ⟨.inr rfl, [.agg (TellR.cells { a.good with iounit := n } wn wd)], ?_, ?_, G, rfl, uG, ?_⟩
            · show (match loadA Try.prog 90 (.ptr ⟨S.length + 1, 1, 0⟩) _, resE Try.prog _ _ [] with | some v, some vs => some (v :: vs) | _, _ => none) = _
              rw [wL_1]; rfl
            · show (AV.agg _).lev0 = true
              have e : lev0s (TellR.cells { a.good with iounit := n } wn wd) = true := tcells_lev (RH.lev0 on.rh) bd.lev0'
              simp only [AV.lev0, e]
            · rw [ho]
              exact ⟨wn, wd, rfl, on, bd, ln, ld, ls⟩
          · have n4 : ¬ around w 14 = 4 := by simpa using hb
            (repeat refine W_seq ?_); refine W_regionT [] ?_
            simp only [go_sem]
            (repeat refine W_seq ?_)
            refine W_cond_if rfl (fun hb => ?_) (fun hb => ?_)
            · have hk : around w 14 = 5 := by simpa using hb
              (repeat refine W_seq ?_); refine W_regionT [] ?_
              simp only [go_sem, wa5_2, ws5_2]
              (repeat refine W_seq ?_); refine W_regionT [] ?_
              simp only [go_sem, wL_2, wS_1 (c2 _)]
              have ho : a.odd w n s = { a.good with count := n } := by unfold TellR.odd; simp [hk]
              refine W_ret ⟨.inr rfl, [.agg (TellR.cells { a.good with count := n } wn wd)], ?_, ?_, G, rfl, uG, ?_⟩
              · show (match loadA Try.prog 90 (.ptr ⟨S.length + 1, 1, 0⟩) _, resE Try.prog _ _ [] with | some v, some vs => some (v :: vs) | _, _ => none) = _
                rw [wL_1]; rfl
              · show (AV.agg _).lev0 = true
                have e : lev0s (TellR.cells { a.good with count := n } wn wd) = true := tcells_lev (RH.lev0 on.rh) bd.lev0'
                simp only [AV.lev0, e]
              · rw [ho]
                exact ⟨wn, wd, rfl, on, bd, ln, ld, ls⟩
            · have n5 : ¬ around w 14 = 5 := by simpa using hb
              (repeat refine W_seq ?_); refine W_regionT [] ?_
              simp only [go_sem]
              (repeat refine W_seq ?_)
              refine W_cond_if rfl (fun hb => ?_) (fun hb => ?_)
              · have hk : around w 14 = 6 := by simpa using hb
                (repeat refine W_seq ?_); refine W_regionT [] ?_
                simp only [go_sem, wa6_2, ws6_2]
                refine AT_call rfl rfl (short89 (n := 300)) fun v M1 hd1 h1 => ?_
                obtain ⟨hv, hM⟩ := h1; subst hv; subst hM
                simp only [go_sem, wa6_2, ws6_2]
                (repeat refine W_seq ?_); refine W_regionT [] ?_
                simp only [go_sem, wL_2, wS_1 (c2 _)]
                have ho : a.odd w n s = { a.good with name := s.take 300 } := by unfold TellR.odd; simp [hk]
                refine W_ret ⟨.inr rfl, [.agg (TellR.cells { a.good with name := s.take 300 } wn wd)], ?_, ?_, G, rfl, uG, ?_⟩
                · show (match loadA Try.prog 90 (.ptr ⟨S.length + 1, 1, 0⟩) _, resE Try.prog _ _ [] with | some v, some vs => some (v :: vs) | _, _ => none) = _
                  rw [wL_1]; rfl
                · show (AV.agg _).lev0 = true
                  have e : lev0s (TellR.cells { a.good with name := s.take 300 } wn wd) = true := tcells_lev (RH.lev0 on.rh) bd.lev0'
                  simp only [AV.lev0, e]
                · rw [ho]
                  exact ⟨wn, wd, rfl, on, bd, ln, ld, ls⟩
              · have n6 : ¬ around w 14 = 6 := by simpa using hb
                (repeat refine W_seq ?_); refine W_regionT [] ?_
                simp only [go_sem]
                (repeat refine W_seq ?_)
                refine W_cond_if rfl (fun hb => ?_) (fun hb => ?_)
                · have hk : around w 14 = 7 := by simpa using hb
                  (repeat refine W_seq ?_); refine W_regionT [] ?_
                  simp only [go_sem, wa7_2, wa85_8_2, ws8_2]
                  (repeat refine W_seq ?_); refine W_regionT [] ?_
                  simp only [go_sem, wL_2, wS_1 (c2 _)]
                  have ho : a.odd w n s = { a.good with q.ver := n } := by unfold TellR.odd; simp [hk]
                  refine W_ret ⟨.inr rfl, [.agg (TellR.cells { a.good with q.ver := n } wn wd)], ?_, ?_, G, rfl, uG, ?_⟩
                  · show (match loadA Try.prog 90 (.ptr ⟨S.length + 1, 1, 0⟩) _, resE Try.prog _ _ [] with | some v, some vs => some (v :: vs) | _, _ => none) = _
                    rw [wL_1]; rfl
                  · show (AV.agg _).lev0 = true
                    have e : lev0s (TellR.cells { a.good with q.ver := n } wn wd) = true := tcells_lev (RH.lev0 on.rh) bd.lev0'
                    simp only [AV.lev0, e]
                  · rw [ho]
                    exact ⟨wn, wd, rfl, on, bd, ln, ld, ls⟩
                · have n7 : ¬ around w 14 = 7 := by simpa using hb
                  (repeat refine W_seq ?_); refine W_regionT [] ?_
                  simp only [go_sem]
                  (repeat refine W_seq ?_)
                  refine W_cond_if rfl (fun hb => ?_) (fun hb => ?_)
                  · have hk : around w 14 = 8 := by simpa using hb
                    (repeat refine W_seq ?_); refine W_regionT [] ?_
                    simp only [go_sem, wa7_2, wa85_9_2, ws9_2]
                    (repeat refine W_seq ?_); refine W_regionT [] ?_
                    simp only [go_sem, wL_2, wS_1 (c2 _)]
                    have ho : a.odd w n s = { a.good with q.path := n } := by unfold TellR.odd; simp [hk]
                    refine W_ret ⟨.inr rfl, [.agg (TellR.cells { a.good with q.path := n } wn wd)], ?_, ?_, G, rfl, uG, ?_⟩
                    · show (match loadA Try.prog 90 (.ptr ⟨S.length + 1, 1, 0⟩) _, resE Try.prog _ _ [] with | some v, some vs => some (v :: vs) | _, _ => none) = _
                      rw [wL_1]; rfl
                    · show (AV.agg _).lev0 = true
                      have e : lev0s (TellR.cells { a.good with q.path := n } wn wd) = true := tcells_lev (RH.lev0 on.rh) bd.lev0'
                      simp only [AV.lev0, e]
                    · rw [ho]
                      exact ⟨wn, wd, rfl, on, bd, ln, ld, ls⟩
                  · have n8 : ¬ around w 14 = 8 := by simpa using hb
                    (repeat refine W_seq ?_); refine W_regionT [] ?_
                    simp only [go_sem]
                    (repeat refine W_seq ?_)
                    refine W_cond_if rfl (fun hb => ?_) (fun hb => ?_)
                    · have hk : around w 14 = 9 := by simpa using hb
                      (repeat refine W_seq ?_); refine W_regionT [] ?_
                      simp only [go_sem, wa10_2, wa88_15_2, ws15_2]
                      (repeat refine W_seq ?_); refine W_regionT [] ?_
                      simp only [go_sem, wL_2, wS_1 (c2 _)]
                      have ho : a.odd w n s = { a.good with s.mode := n } := by unfold TellR.odd; simp [hk]
                      refine W_ret ⟨.inr rfl, [.agg (TellR.cells { a.good with s.mode := n } wn wd)], ?_, ?_, G, rfl, uG, ?_⟩
                      · show (match loadA Try.prog 90 (.ptr ⟨S.length + 1, 1, 0⟩) _, resE Try.prog _ _ [] with | some v, some vs => some (v :: vs) | _, _ => none) = _
                        rw [wL_1]; rfl
                      · show (AV.agg _).lev0 = true
                        have e : lev0s (TellR.cells { a.good with s.mode := n } wn wd) = true := tcells_lev (RH.lev0 on.rh) bd.lev0'
                        simp only [AV.lev0, e]
                      · rw [ho]
                        exact ⟨wn, wd, rfl, on, bd, ln, ld, ls⟩
                    · have n9 : ¬ around w 14 = 9 := by simpa using hb
                      (repeat refine W_seq ?_); refine W_regionT [] ?_
                      simp only [go_sem]
                      (repeat refine W_seq ?_)
                      refine W_cond_if rfl (fun hb => ?_) (fun hb => ?_)
                      · have hk : around w 14 = 10 := by simpa using hb
                        (repeat refine W_seq ?_); refine W_regionT [] ?_
                        simp only [go_sem, wa10_2, wa88_16_2, ws16_2]
                        (repeat refine W_seq ?_); refine W_regionT [] ?_
                        simp only [go_sem, wL_2, wS_1 (c2 _)]
                        have ho : a.odd w n s = { a.good with s.size := n } := by unfold TellR.odd; simp [hk]
                        refine W_ret ⟨.inr rfl, [.agg (TellR.cells { a.good with s.size := n } wn wd)], ?_, ?_, G, rfl, uG, ?_⟩
                        · show (match loadA Try.prog 90 (.ptr ⟨S.length + 1, 1, 0⟩) _, resE Try.prog _ _ [] with | some v, some vs => some (v :: vs) | _, _ => none) = _
                          rw [wL_1]; rfl
                        · show (AV.agg _).lev0 = true
                          have e : lev0s (TellR.cells { a.good with s.size := n } wn wd) = true := tcells_lev (RH.lev0 on.rh) bd.lev0'
                          simp only [AV.lev0, e]
                        · rw [ho]
                          exact ⟨wn, wd, rfl, on, bd, ln, ld, ls⟩
                      · have n10 : ¬ around w 14 = 10 := by simpa using hb
                        (repeat refine W_seq ?_); refine W_regionT [] ?_
                        simp only [go_sem]
                        (repeat refine W_seq ?_)
                        refine W_cond_if rfl (fun hb => ?_) (fun hb => ?_)
                        · have hk : around w 14 = 11 := by simpa using hb
                          (repeat refine W_seq ?_); refine W_regionT [] ?_
                          simp only [go_sem, wa10_2, wa88_17_2, ws17_2]
                          refine AT_call rfl rfl (short89 (n := 300)) fun v M1 hd1 h1 => ?_
                          obtain ⟨hv, hM⟩ := h1; subst hv; subst hM
                          simp only [go_sem, wa10_2, wa88_17_2, ws17_2]
                          (repeat refine W_seq ?_); refine W_regionT [] ?_
                          simp only [go_sem, wL_2, wS_1 (c2 _)]
                          have ho : a.odd w n s = { a.good with s.name := s.take 300 } := by unfold TellR.odd; simp [hk]
                          refine W_ret ⟨.inr rfl, [.agg (TellR.cells { a.good with s.name := s.take 300 } wn wd)], ?_, ?_, G, rfl, uG, ?_⟩
                          · show (match loadA Try.prog 90 (.ptr ⟨S.length + 1, 1, 0⟩) _, resE Try.prog _ _ [] with | some v, some vs => some (v :: vs) | _, _ => none) = _
                            rw [wL_1]; rfl
                          · show (AV.agg _).lev0 = true
                            have e : lev0s (TellR.cells { a.good with s.name := s.take 300 } wn wd) = true := tcells_lev (RH.lev0 on.rh) bd.lev0'
                            simp only [AV.lev0, e]
                          · rw [ho]
                            exact ⟨wn, wd, rfl, on, bd, ln, ld, ls⟩
                        · have n11 : ¬ around w 14 = 11 := by simpa using hb
                          (repeat refine W_seq ?_); refine W_regionT [] ?_
                          simp only [go_sem]
                          (repeat refine W_seq ?_)
                          refine W_cond_if rfl (fun hb => ?_) (fun hb => ?_)
                          · have hk : around w 14 = 12 := by simpa using hb
                            (repeat refine W_seq ?_); refine W_regionT [] ?_
                            simp only [go_sem, wa10_2, wa88_12_2, wa85_14_2, ws14_2]
                            (repeat refine W_seq ?_); refine W_regionT [] ?_
                            simp only [go_sem, wL_2, wS_1 (c2 _)]
                            have ho : a.odd w n s = { a.good with s.q.path := n } := by unfold TellR.odd; simp [hk]
                            refine W_ret ⟨.inr rfl, [.agg (TellR.cells { a.good with s.q.path := n } wn wd)], ?_, ?_, G, rfl, uG, ?_⟩
                            · show (match loadA Try.prog 90 (.ptr ⟨S.length + 1, 1, 0⟩) _, resE Try.prog _ _ [] with | some v, some vs => some (v :: vs) | _, _ => none) = _
                              rw [wL_1]; rfl
                            · show (AV.agg _).lev0 = true
                              have e : lev0s (TellR.cells { a.good with s.q.path := n } wn wd) = true := tcells_lev (RH.lev0 on.rh) bd.lev0'
                              simp only [AV.lev0, e]
                            · rw [ho]
                              exact ⟨wn, wd, rfl, on, bd, ln, ld, ls⟩
                          · have n12 : ¬ around w 14 = 12 := by simpa using hb
                            obtain ⟨v2, G2, hap, oh2, u2, l2⟩ := q_snoc (S := [Block.row ⟨90, 18, TellR.cells a vn vd, false, false⟩, Block.row ⟨90, 18, TellR.cells TellR.z .nilsl .nilsl, false, false⟩, Block.row ⟨90, 18, TellR.cells a.good wn wd, false, false⟩] :: S) (q := ⟨false, n, 0⟩) on (by have h8 := tgood_short (a := a); omega)
                            have c3 := fun b : TellR => tcells_st b (OHQ oh2).1 bd.one.1
                            (repeat refine W_seq ?_); refine W_regionT [18, 19] ?_
                            simp only [go_sem, wa8_2, wl10_2, bld85', one86, hap, ws10_2 (OHQ oh2).1 (OHQ oh2).2]
                            (repeat refine W_seq ?_); refine W_regionT [] ?_
                            simp only [go_sem, wL_2, wS_1 (c3 _)]
                            have ho : a.odd w n s = { a.good with qids := a.good.qids ++ [⟨false, n, 0⟩] } := by unfold TellR.odd; simp [n0, n1, n2, n3, n4, n5, n6, n7, n8, n9, n10, n11, n12]
                            refine W_ret ⟨.inr rfl, [.agg (TellR.cells { a.good with qids := a.good.qids ++ [⟨false, n, 0⟩] } v2 wd)], ?_, ?_, G2, rfl, uG.then u2 (fun k hk h => by have := ln k h; omega), ?_⟩
                            · show (match loadA Try.prog 90 (.ptr ⟨S.length + 1, 1, 0⟩) _, resE Try.prog _ _ [] with | some v, some vs => some (v :: vs) | _, _ => none) = _
                              rw [wL_1]; rfl
                            · show (AV.agg _).lev0 = true
                              have e : lev0s (TellR.cells { a.good with qids := a.good.qids ++ [⟨false, n, 0⟩] } v2 wd) = true := tcells_lev (RH.lev0 oh2.rh) bd.lev0'
                              simp only [AV.lev0, e]
                            · rw [ho]
                              exact ⟨v2, wd, rfl, oh2, RH.upd bd u2 (fun k hk h => ls k h hk), fun k hk => (l2 k hk).elim (ln k) (fun h => Nat.le_trans uG.l h), ld, fun k hk hk2 => (l2 k hk).elim (fun h => ls k h hk2) (fun h => by have := RH.lt bd hk2; omega)⟩
end
end Go.Proofs.Ytlpcbfndjffpfaa
