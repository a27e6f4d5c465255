/- The walk of FidsApart. -/
import Derived.Test.YtcjdckoabinndaaSmall
import Derived.Test.YtcjdckoabinndaaMuxLaws
set_option maxRecDepth 100000
set_option maxHeartbeats 4000000
set_option linter.unusedSimpArgs false
set_option linter.unusedVariables false
namespace Go.Proofs.Ytcjdckoabinndaa
open Go.Abs
theorem lives20c {M : Mem} : AC Try.prog 17 [] M (fun v M' => v = .bool true ∧ M' = M) :=
  (AC_closed rfl (lives20 (H := []) (S := [])) (fun v M' h => by rw [h.1]; rfl)).mono fun v M' h => ⟨h.1.choose_spec.1, h.2⟩
/-- A fid's ten fields. -/
def X10 (x : AV) : Prop := ∃ n0 n1 n2 n3 s p q n7 n8 n9, x = .agg [.int .i64 n0, .int .i64 n1, .int .i64 n2, .int .i64 n3, .str s, .bool p, .bool q, .int .i64 n7, .int .i64 n8, .int .i64 n9]
theorem X10.fid {x : AV} (h : X10 x) : FidV x := by
  obtain ⟨n0, n1, n2, n3, s, p, q, n7, n8, n9, rfl⟩ := h
  exact ⟨_, rfl, rfl, rfl⟩
theorem X10.self {x : AV} (h : X10 x) {cx cy : Bool} : binG Try.prog .eql 59 cx cy x x = some (.bool true) := by
  obtain ⟨n0, n1, n2, n3, s, p, q, n7, n8, n9, rfl⟩ := h
  simp [binG, notUndef, guardA, binA, eqA, eqFieldsA, partA, ti59, ti30, ti3, ti9, ti4, TI.isAgg]
theorem fid0_self {cx cy : Bool} : binG Try.prog .eql 32 cx cy fid0 fid0 = some (.bool true) := by
  simp [fid0, binG, notUndef, guardA, binA, eqA, eqFieldsA, partA, ti32, ti30, ti3, ti9, ti4, TI.isAgg]
def xor1 (a : Int) : Int := IntKind.wrap .i64 (BitVec.ofInt 64 a ^^^ BitVec.ofInt 64 1).toNat
theorem xorF {a : Int} {cx cy : Bool} : binG Try.prog .xor 3 cx cy (.int .i64 a) (.int .i64 1) = some (.int .i64 (xor1 a)) := rfl
theorem xor1_ne {a : Int} : xor1 a ≠ a := by
  intro h
  have h1 := congrArg (BitVec.ofInt 64) h
  have h2 : ∀ n : Nat, BitVec.ofInt 64 (IntKind.wrap .i64 (n : Int)) = BitVec.ofInt 64 n := by
    intro n
    apply BitVec.eq_of_toInt_eq
    simp only [BitVec.toInt_ofInt, IntKind.wrap, IntKind.bits, IntKind.signed, IntKind.min, IntKind.max]
    simp [Int.bmod]
    omega
  unfold xor1 at h1
  rw [h2, BitVec.ofInt_natCast, BitVec.ofNat_toNat, BitVec.setWidth_eq] at h1
  have h3 := congrArg (fun x => BitVec.ofInt 64 a ^^^ x) h1
  simp only [← BitVec.xor_assoc, BitVec.xor_self, BitVec.zero_xor] at h3
  exact absurd h3 (by decide)
section
variable {H : List Block} {S : List (List Block)}
theorem fidsApart {a b : Int} {x y : AV} (hx : X10 x) (hy : X10 y) : AC Try.prog 9 [.int .i64 a, .int .i64 b, x, y] ⟨H, S⟩ (fun v M' => v = .bool true) := by
  refine AC_of_WE Try.func9 rfl ?_
  simp only [Try.ntmps9, List.length_cons, List.length_nil, List.replicate, List.cons_append, List.nil_append, mem_enter]
  obtain ⟨b', hb', hne⟩ : ∃ b', (if a = b then xor1 a else b) = b' ∧ b' ≠ a := by
    refine ⟨_, rfl, ?_⟩
    split
    · exact xor1_ne
    · rename_i h; exact fun e => h e.symm
  have hxf := hx.fid
  have hyf := hy.fid
  have hxs := @X10.self x hx
  obtain ⟨cx, rfl, cx1, cx2⟩ := hx.fid
  obtain ⟨cy, rfl, cy1, cy2⟩ := hy.fid
  have l6 : ∀ {H : List Block} {F : List Block}, loadA Try.prog 59 (.ptr ⟨S.length + 1, 0, 0⟩) ⟨H, (Block.row ⟨59, 10, cx, false, false⟩ :: F) :: S⟩ = some (.agg cx) := load_all (r := ⟨59, 10, cx, false, false⟩) ti59 rfl (top_row rfl) rfl rfl cx2
  have l7 : ∀ {H : List Block} {F : List Block} {B : Block}, loadA Try.prog 59 (.ptr ⟨S.length + 1, 1, 0⟩) ⟨H, (B :: Block.row ⟨59, 10, cy, false, false⟩ :: F) :: S⟩ = some (.agg cy) := load_all (r := ⟨59, 10, cy, false, false⟩) ti59 rfl (top_row rfl) rfl rfl cy2
  have l16 : ∀ {H : List Block} {F : List Block} {B C : Block}, loadA Try.prog 32 (.ptr ⟨S.length + 1, 2, 0⟩) ⟨H, (B :: C :: Block.row ⟨32, 10, cx, false, false⟩ :: F) :: S⟩ = some (.agg cx) := load_all (r := ⟨32, 10, cx, false, false⟩) ti32 rfl (top_row rfl) rfl rfl cx2
  have l18 : ∀ {H : List Block} {F : List Block} {B C D : Block}, loadA Try.prog 32 (.ptr ⟨S.length + 1, 3, 0⟩) ⟨H, (B :: C :: D :: Block.row ⟨32, 10, [(.int .i64 0), (.int .i64 0), (.int .i64 0), (.int .i64 0), (.str []), (.bool false), (.bool false), (.int .i64 0), (.int .i64 0), (.int .i64 0)], false, false⟩ :: F) :: S⟩ = some fid0 := load_all (r := ⟨32, 10, [(.int .i64 0), (.int .i64 0), (.int .i64 0), (.int .i64 0), (.str []), (.bool false), (.bool false), (.int .i64 0), (.int .i64 0), (.int .i64 0)], false, false⟩) ti32 rfl (top_row rfl) rfl rfl rfl
  have p1 : putK [] a (.agg cx) = [(a, .agg cx)] := rfl
  have p2 : putK [(a, .agg cx)] b' (.agg cy) = [(a, .agg cx), (b', .agg cy)] := by simp [putK, pos, hne]
  have p3 : putK [(a, .agg cx), (b', .agg cy)] b' (.agg cx) = [(a, .agg cx), (b', .agg cx)] := by simp [putK, pos, hne]
  have p4 : putK [(a, .agg cx), (b', .agg cx)] b' (.agg cy) = [(a, .agg cx), (b', .agg cy)] := by simp [putK, pos, hne]
  have p5 : delK [(a, .agg cx), (b', .agg cy)] b' = [(a, .agg cx)] := by simp [delK, pos, hne]
  have p6 : delK [(a, .agg cx)] b' = [(a, .agg cx)] := by simp [delK, pos, hne]
  have q1 : freeF 5 [] a = 0 := rfl
  have q2 : freeF 5 [(a, .agg cx)] b' = 0 := by simp [freeF, getK, pos, hne]
  have g1 : ∀ z : AV, (getK [(a, .agg cx), (b', z)] b').isSome = true := fun z => by simp [getK, pos, hne]
  have g2 : (getK [(a, .agg cx)] b').isSome = false := by simp [getK, pos, hne]
  have g3 : getK [(a, .agg cx)] a = some (.agg cx) := by simp [getK, pos]
  have g4 : getK [(a, .agg cx)] b' = none := by simp [getK, pos, hne]
  have vv : ∀ es : KV, (∀ e ∈ es, e.2 = .agg cx ∨ e.2 = .agg cy) → ∀ e ∈ es, FidV e.2 := fun es h e he => by
    rcases h e he with h | h <;> rw [h]
    · exact hxf
    · exact hyf
  have hbx : ∀ {H : List Block} {F : List Block}, boxA Try.prog 59 false (.agg cx) ⟨H, F :: S⟩ = some (.ptr ⟨S.length + 1, F.length, 0⟩, ⟨H, (F ++ [Block.row ⟨59, 10, cx, false, false⟩]) :: S⟩) := box_agg ti59 cx1 cx2 (by decide)
  have hby : ∀ {H : List Block} {F : List Block}, boxA Try.prog 59 false (.agg cy) ⟨H, F :: S⟩ = some (.ptr ⟨S.length + 1, F.length, 0⟩, ⟨H, (F ++ [Block.row ⟨59, 10, cy, false, false⟩]) :: S⟩) := box_agg ti59 cy1 cy2 (by decide)
  (repeat refine W_seq ?_); refine W_regionT [] ?_
  simp only [go_sem, hbx, hby, List.nil_append, List.cons_append]
  (repeat refine W_seq ?_); refine W_regionT [] ?_
  simp only [go_sem]
  refine AT_call rfl rfl (newF) fun v M1 hd1 h1 => ?_
  rcases h1 with ⟨_, rfl, rfl⟩ | ⟨hk, _⟩
  case inr => exact absurd (by decide) hk
  have e0 : Fids ⟨H ++ [.map (kv .i64 []), .row ⟨101, 2, [.int .i64 ((5 : Nat) : Int), .map H.length], false, false⟩], ([Block.row ⟨59, 10, cx, false, false⟩, Block.row ⟨59, 10, cy, false, false⟩] :: S)⟩ (H.length + 1) H.length 5 [] := newFids
  rw [show ((5 : Int).toNat) = 5 from rfl]
  generalize H ++ [.map (kv .i64 []), .row ⟨101, 2, [.int .i64 ((5 : Nat) : Int), .map H.length], false, false⟩] = G at e0
  generalize H.length + 1 = ix at e0
  generalize H.length = mi at e0
  simp only [go_sem]
  (repeat refine W_seq ?_); refine W_regionT [] ?_
  simp only [go_sem]
  (repeat refine W_seq ?_)
  refine W_cond (b := false) rfl ?_
  simp only [Bool.false_eq_true, if_false]
  refine W_skip ?_
  simp only [go_sem]
  (repeat refine W_seq ?_); refine W_regionT [] ?_
  simp only [go_sem]
  (repeat refine W_seq ?_)
  refine W_cond_if rfl (fun hb => ?_) (fun hb => ?_)
  · have hab : a = b := by simpa using hb
    (repeat refine W_seq ?_); refine W_regionT [] ?_
    simp only [go_sem, xorF]
    rw [if_pos hab] at hb'
    rw [hb']
    (repeat refine W_seq ?_); refine W_regionT [] ?_
    simp only [go_sem, l6]
    refine AT_call rfl rfl (add (n := a) (x := .agg cx) e0 hxf) fun v M1 hd1 h1 => ?_
    obtain ⟨hv, hM⟩ := h1
    rw [q1] at hv hM
    rw [p1, if_pos rfl] at hM
    subst hv; subst hM
    have e1 := e0.set (S' := ([Block.row ⟨59, 10, cx, false, false⟩, Block.row ⟨59, 10, cy, false, false⟩] :: S)) (es' := [(a, .agg cx)]) (vv _ (by simp))
    simp only [go_sem, l6]
    (repeat refine W_seq ?_); refine W_regionT [] ?_
    simp only [go_sem, l7]
    refine AT_call rfl rfl (add (n := b') (x := .agg cy) e1 hyf) fun v M1 hd1 h1 => ?_
    obtain ⟨hv, hM⟩ := h1
    rw [q2] at hv hM
    rw [p2, if_pos rfl] at hM
    subst hv; subst hM
    have e2 := e1.set (S' := ([Block.row ⟨59, 10, cx, false, false⟩, Block.row ⟨59, 10, cy, false, false⟩] :: S)) (es' := [(a, .agg cx), (b', .agg cy)]) (vv _ (by simp))
    simp only [go_sem, l7]
    (repeat refine W_seq ?_); refine W_regionT [] ?_
    simp only [go_sem, l6]
    refine AT_call rfl rfl (setF (n := b') (x := .agg cx) e2 hxf) fun v M1 hd1 h1 => ?_
    obtain ⟨hv, hM⟩ := h1
    rw [g1 (.agg cy), if_pos rfl] at hv hM
    rw [p3] at hM
    subst hv; subst hM
    have e3 := e2.set (S' := ([Block.row ⟨59, 10, cx, false, false⟩, Block.row ⟨59, 10, cy, false, false⟩] :: S)) (es' := [(a, .agg cx), (b', .agg cx)]) (vv _ (by simp))
    simp only [go_sem, l6]
    (repeat refine W_seq ?_); refine W_regionT [] ?_
    simp only [go_sem, l7]
    refine AT_call rfl rfl (setF (n := b') (x := .agg cy) e3 hyf) fun v M1 hd1 h1 => ?_
    obtain ⟨hv, hM⟩ := h1
    rw [g1 (.agg cx), if_pos rfl] at hv hM
    rw [p4] at hM
    subst hv; subst hM
    have e4 := e3.set (S' := ([Block.row ⟨59, 10, cx, false, false⟩, Block.row ⟨59, 10, cy, false, false⟩] :: S)) (es' := [(a, .agg cx), (b', .agg cy)]) (vv _ (by simp))
    simp only [go_sem, l7]
    (repeat refine W_seq ?_); refine W_regionT [] ?_
    simp only [go_sem]
    refine AT_call rfl rfl (drop (n := b') e4) fun v M1 hd1 h1 => ?_
    obtain ⟨hv, hM⟩ := h1
    rw [g1 (.agg cy), if_pos rfl] at hv
    rw [p5] at hM
    subst hv; subst hM
    have e5 := e4.set (S' := ([Block.row ⟨59, 10, cx, false, false⟩, Block.row ⟨59, 10, cy, false, false⟩] :: S)) (es' := [(a, .agg cx)]) (vv _ (by simp))
    simp only [go_sem]
    (repeat refine W_seq ?_); refine W_regionT [] ?_
    simp only [go_sem]
    refine AT_call rfl rfl (drop (n := b') e5) fun v M1 hd1 h1 => ?_
    obtain ⟨hv, hM⟩ := h1
    rw [g2] at hv
    simp only [Bool.false_eq_true, if_false] at hv
    rw [p6] at hM
    subst hv; subst hM
    have e6 := e5.set (S' := ([Block.row ⟨59, 10, cx, false, false⟩, Block.row ⟨59, 10, cy, false, false⟩] :: S)) (es' := [(a, .agg cx)]) (vv _ (by simp))
    simp only [go_sem]
    (repeat refine W_seq ?_); refine W_regionT [] ?_
    simp only [go_sem]
    refine AT_call rfl rfl (get (n := a) e6) fun v M1 hd1 h1 => ?_
    obtain ⟨hv, hM⟩ := h1
    rw [g3] at hv
    simp only [Option.getD_some, Option.isSome_some, if_true] at hv
    subst hv; subst hM
    simp only [go_sem]
    rw [alloc_agg ti32 rfl rfl rfl (by decide)]
    simp only [go_sem]
    rw [store_all ti32 (top_row rfl) rfl rfl rfl rfl rfl cx2 cx1]
    simp only [go_sem]
    have e7 := e6.to (S' := [Block.row ⟨59, 10, cx, false, false⟩, Block.row ⟨59, 10, cy, false, false⟩, Block.row ⟨32, 10, cx, false, false⟩] :: S)
    (repeat refine W_seq ?_); refine W_regionT [] ?_
    simp only [go_sem]
    refine AT_call rfl rfl (get (n := b') e7) fun v M1 hd1 h1 => ?_
    obtain ⟨hv, hM⟩ := h1
    rw [g4] at hv
    simp only [Option.getD_none, Option.isSome_none, Bool.false_eq_true, if_false] at hv
    unfold fid0 at hv
    subst hv; subst hM
    simp only [go_sem]
    rw [alloc_agg ti32 rfl rfl rfl (by decide)]
    simp only [go_sem]
    rw [store_all ti32 (top_row rfl) rfl rfl rfl rfl rfl rfl rfl]
    simp only [go_sem]
    (repeat refine W_seq ?_); refine W_regionT [] ?_
    simp only [go_sem, l6, l16, l18, hxs, build0, fid0_self]
    refine AT_call rfl rfl (lives20c) fun v M1 hd1 h1 => ?_
    obtain ⟨hv, hM⟩ := h1; subst hv; subst hM
    simp only [go_sem, l6, l16, l18, hxs, build0, fid0_self]
    exact W_ret ⟨.inr rfl, _, rfl, rfl, rfl⟩
  · have hab : ¬ a = b := by simpa using hb
    rw [if_neg hab] at hb'
    rw [hb']
    refine W_skip ?_
    simp only [go_sem]
    (repeat refine W_seq ?_); refine W_regionT [] ?_
    simp only [go_sem, l6]
    refine AT_call rfl rfl (add (n := a) (x := .agg cx) e0 hxf) fun v M1 hd1 h1 => ?_
    obtain ⟨hv, hM⟩ := h1
    rw [q1] at hv hM
    rw [p1, if_pos rfl] at hM
    subst hv; subst hM
    have e1 := e0.set (S' := ([Block.row ⟨59, 10, cx, false, false⟩, Block.row ⟨59, 10, cy, false, false⟩] :: S)) (es' := [(a, .agg cx)]) (vv _ (by simp))
    simp only [go_sem, l6]
    (repeat refine W_seq ?_); refine W_regionT [] ?_
    simp only [go_sem, l7]
    refine AT_call rfl rfl (add (n := b') (x := .agg cy) e1 hyf) fun v M1 hd1 h1 => ?_
    obtain ⟨hv, hM⟩ := h1
    rw [q2] at hv hM
    rw [p2, if_pos rfl] at hM
    subst hv; subst hM
    have e2 := e1.set (S' := ([Block.row ⟨59, 10, cx, false, false⟩, Block.row ⟨59, 10, cy, false, false⟩] :: S)) (es' := [(a, .agg cx), (b', .agg cy)]) (vv _ (by simp))
    simp only [go_sem, l7]
    (repeat refine W_seq ?_); refine W_regionT [] ?_
    simp only [go_sem, l6]
    refine AT_call rfl rfl (setF (n := b') (x := .agg cx) e2 hxf) fun v M1 hd1 h1 => ?_
    obtain ⟨hv, hM⟩ := h1
    rw [g1 (.agg cy), if_pos rfl] at hv hM
    rw [p3] at hM
    subst hv; subst hM
    have e3 := e2.set (S' := ([Block.row ⟨59, 10, cx, false, false⟩, Block.row ⟨59, 10, cy, false, false⟩] :: S)) (es' := [(a, .agg cx), (b', .agg cx)]) (vv _ (by simp))
    simp only [go_sem, l6]
    (repeat refine W_seq ?_); refine W_regionT [] ?_
    simp only [go_sem, l7]
    refine AT_call rfl rfl (setF (n := b') (x := .agg cy) e3 hyf) fun v M1 hd1 h1 => ?_
    obtain ⟨hv, hM⟩ := h1
    rw [g1 (.agg cx), if_pos rfl] at hv hM
    rw [p4] at hM
    subst hv; subst hM
    have e4 := e3.set (S' := ([Block.row ⟨59, 10, cx, false, false⟩, Block.row ⟨59, 10, cy, false, false⟩] :: S)) (es' := [(a, .agg cx), (b', .agg cy)]) (vv _ (by simp))
    simp only [go_sem, l7]
    (repeat refine W_seq ?_); refine W_regionT [] ?_
    simp only [go_sem]
    refine AT_call rfl rfl (drop (n := b') e4) fun v M1 hd1 h1 => ?_
    obtain ⟨hv, hM⟩ := h1
    rw [g1 (.agg cy), if_pos rfl] at hv
    rw [p5] at hM
    subst hv; subst hM
    have e5 := e4.set (S' := ([Block.row ⟨59, 10, cx, false, false⟩, Block.row ⟨59, 10, cy, false, false⟩] :: S)) (es' := [(a, .agg cx)]) (vv _ (by simp))
    simp only [go_sem]
    (repeat refine W_seq ?_); refine W_regionT [] ?_
    simp only [go_sem]
    refine AT_call rfl rfl (drop (n := b') e5) fun v M1 hd1 h1 => ?_
    obtain ⟨hv, hM⟩ := h1
    rw [g2] at hv
    simp only [Bool.false_eq_true, if_false] at hv
    rw [p6] at hM
    subst hv; subst hM
    have e6 := e5.set (S' := ([Block.row ⟨59, 10, cx, false, false⟩, Block.row ⟨59, 10, cy, false, false⟩] :: S)) (es' := [(a, .agg cx)]) (vv _ (by simp))
    simp only [go_sem]
    (repeat refine W_seq ?_); refine W_regionT [] ?_
    simp only [go_sem]
    refine AT_call rfl rfl (get (n := a) e6) fun v M1 hd1 h1 => ?_
    obtain ⟨hv, hM⟩ := h1
    rw [g3] at hv
    simp only [Option.getD_some, Option.isSome_some, if_true] at hv
    subst hv; subst hM
    simp only [go_sem]
    rw [alloc_agg ti32 rfl rfl rfl (by decide)]
    simp only [go_sem]
    rw [store_all ti32 (top_row rfl) rfl rfl rfl rfl rfl cx2 cx1]
    simp only [go_sem]
    have e7 := e6.to (S' := [Block.row ⟨59, 10, cx, false, false⟩, Block.row ⟨59, 10, cy, false, false⟩, Block.row ⟨32, 10, cx, false, false⟩] :: S)
    (repeat refine W_seq ?_); refine W_regionT [] ?_
    simp only [go_sem]
    refine AT_call rfl rfl (get (n := b') e7) fun v M1 hd1 h1 => ?_
    obtain ⟨hv, hM⟩ := h1
    rw [g4] at hv
    simp only [Option.getD_none, Option.isSome_none, Bool.false_eq_true, if_false] at hv
    unfold fid0 at hv
    subst hv; subst hM
    simp only [go_sem]
    rw [alloc_agg ti32 rfl rfl rfl (by decide)]
    simp only [go_sem]
    rw [store_all ti32 (top_row rfl) rfl rfl rfl rfl rfl rfl rfl]
    simp only [go_sem]
    (repeat refine W_seq ?_); refine W_regionT [] ?_
    simp only [go_sem, l6, l16, l18, hxs, build0, fid0_self]
    refine AT_call rfl rfl (lives20c) fun v M1 hd1 h1 => ?_
    obtain ⟨hv, hM⟩ := h1; subst hv; subst hM
    simp only [go_sem, l6, l16, l18, hxs, build0, fid0_self]
    exact W_ret ⟨.inr rfl, _, rfl, rfl, rfl⟩
end
end Go.Proofs.Ytcjdckoabinndaa
