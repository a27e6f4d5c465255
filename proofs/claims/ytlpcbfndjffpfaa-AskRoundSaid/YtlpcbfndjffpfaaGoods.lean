/- The walk of the reference's Good, and of the law's odd and few. -/
import Derived.Test.YtlpcbfndjffpfaaRefs17b
set_option maxRecDepth 100000
set_option maxHeartbeats 4000000
set_option linter.unusedSimpArgs false
set_option linter.unusedVariables false
namespace Go.Proofs.Ytlpcbfndjffpfaa
open Go.Abs
/-- A request, as it comes in. -/
structure AskR.Rng (a : AskR) : Prop where
  ty : -9223372036854775808 ≤ a.ty ∧ a.ty < 9223372036854775808
  tag : -9223372036854775808 ≤ a.tag ∧ a.tag < 9223372036854775808
  fid : -9223372036854775808 ≤ a.fid ∧ a.fid < 9223372036854775808
  newfid : -9223372036854775808 ≤ a.newfid ∧ a.newfid < 9223372036854775808
  oldtag : -9223372036854775808 ≤ a.oldtag ∧ a.oldtag < 9223372036854775808
  msize : -9223372036854775808 ≤ a.msize ∧ a.msize < 9223372036854775808
  mode : -9223372036854775808 ≤ a.mode ∧ a.mode < 9223372036854775808
  perm : -9223372036854775808 ≤ a.perm ∧ a.perm < 9223372036854775808
  off : -9223372036854775808 ≤ a.off ∧ a.off < 9223372036854775808
  count : -9223372036854775808 ≤ a.count ∧ a.count < 9223372036854775808
  size : -9223372036854775808 ≤ a.size ∧ a.size < 9223372036854775808
def AskR.raw (a : AskR) : AskR := ⟨kindOf a.ty, around a.tag 65536, around a.fid 4294967296, around a.newfid 4294967296, around a.oldtag 65536, around a.msize 4294967296, around a.mode 256, around a.perm 4294967296, around a.off 4611686018427387905, around a.count 4294967296, a.name.take 40, (a.names.take 8).map (List.take 40), around a.size 4294967296 - 1, a.data.take 30⟩
def AskR.good (a : AskR) : AskR := a.raw.own
def AskR.odd (a : AskR) (w n : Int) (s : List UInt8) : AskR := if around w 13 = 0 then { a.good with ty := n } else if around w 13 = 1 then { a.good with tag := n } else if around w 13 = 2 then { a.good with fid := n } else if around w 13 = 3 then { a.good with newfid := n } else if around w 13 = 4 then { a.good with oldtag := n } else if around w 13 = 5 then { a.good with msize := n } else if around w 13 = 6 then { a.good with mode := n } else if around w 13 = 7 then { a.good with perm := n } else if around w 13 = 8 then { a.good with off := n } else if around w 13 = 9 then { a.good with count := n } else if around w 13 = 10 then { a.good with size := n } else if around w 13 = 11 then { a.good with name := s.take 300 } else { a.good with names := a.good.names ++ [s.take 300] }
def AskR.few (a : AskR) : AskR := { a with name := a.name.take 300, names := (a.names.take 10).map (List.take 300), data := a.data.take 40 }
/-- A request with slices of its own, from a place on. -/
def AskO (H : List Block) (n : Nat) (x : AV) (b : AskR) : Prop := ∃ vn vd, x = .agg (b.cells vn vd) ∧ OH H vn 9 1 (b.names.map AV.str) b.names.length ∧ BH H vd b.data ∧ (∀ k, vn.loc k → n ≤ k) ∧ (∀ k, vd.loc k → n ≤ k) ∧ ∀ k, vn.loc k → ¬ vd.loc k
section
variable {H H' : List Block} {S : List (List Block)} {F : List Block} {M' : Mem}
/-- Texts that came in. -/
theorem texts_of {q : List UInt8 → Prop} {css : List (List AV)} (h : ∀ x, x ∈ css → x.length = 1 ∧ ∃ l, x = [.str l] ∧ q l) : ∃ ts : List (List UInt8), css.flatten = ts.map AV.str ∧ css.length = ts.length := by
  induction css with
  | nil => exact ⟨[], rfl, rfl⟩
  | cons x css ih =>
    obtain ⟨ts, h1, h2⟩ := ih fun y hy => h y (List.mem_cons_of_mem _ hy)
    obtain ⟨_, l, rfl, _⟩ := h x List.mem_cons_self
    exact ⟨l :: ts, by rw [List.flatten_cons, h1]; rfl, by simp [h2]⟩
theorem AskO.v {n : Nat} {x : AV} {b : AskR} (h : AskO H n x b) : AskV H x b := by
  obtain ⟨vn, vd, rfl, h1, h2, _⟩ := h
  exact ⟨vn, vd, rfl, h1.rh, h2⟩
theorem AskO.new {n : Nat} {x : AV} {b : AskR} (h : AskO H n x b) (u : UpdH no H H') : AskO H' n x b := by
  obtain ⟨vn, vd, rfl, h1, h2, h3⟩ := h
  exact ⟨vn, vd, rfl, h1.new u, h2.new u, h3⟩
theorem bld8 {a b c d e f g h : Int} : buildA Try.prog 72 [(0, .int .i64 a), (1, .int .i64 b), (2, .int .i64 c), (3, .int .i64 d), (4, .int .i64 e), (5, .int .i64 f), (6, .int .i64 g), (7, .int .i64 h)] = some (.agg (AskR.cells ⟨a, b, c, d, e, f, g, h, 0, 0, [], [], 0, []⟩ .nilsl .nilsl)) := by unfold buildA; simp only [ti72]; rfl
theorem th_snoc {v : AV} {l : List (List UInt8)} {s : List UInt8} (h : OH H v 9 1 (l.map AV.str) l.length) (hl : l.length < 1000000) : ∃ v' H', appendA Try.prog 70 70 true v (.sl ⟨0, H.length, 0⟩ 1 (some 1)) ⟨H ++ [.row ⟨9, 1, [.str s], false, false⟩], S⟩ = some (v', ⟨H', S⟩) ∧ OH H' v' 9 1 ((l ++ [s]).map AV.str) (l ++ [s]).length ∧ UpdH v.loc H H' ∧ ∀ k, v'.loc k → v.loc k ∨ H.length ≤ k := by
  have h1 : OH (H ++ [Block.row ⟨9, 1, [.str s], false, false⟩]) v 9 1 (l.map AV.str) l.length := h.new UpdH.push
  have h2 : RH (H ++ [Block.row ⟨9, 1, [.str s], false, false⟩]) (.sl ⟨0, H.length, 0⟩ 1 (some 1)) 1 [.str s] 1 := .inr ⟨H.length, 0, some 1, _, rfl, List.getElem?_concat_length .., rfl, rfl, rfl⟩
  obtain ⟨v', H', a1, a2, a3, a4⟩ := appH (S := S) ti70 rfl ti9 ti70 rfl rfl ⟨by decide, by decide, rfl, rfl⟩ h1 (content_rh h2) (by simp [AV.st, AV.lev0]) (by show (l.length + 1) * 16 ≤ _; omega)
  refine ⟨v', H', a1, ?_, UpdH.push.new a3, fun k hk => (a4 k hk).imp id fun h => by simp at h; omega⟩
  rw [List.map_append, List.length_append]
  exact a2
theorem snocT {l : List (List UInt8)} {i m : Nat} (h : i < l.length) : (l.take (i + 1)).map (List.take m) = (l.take i).map (List.take m) ++ [l[i].take m] := by
  rw [List.take_add_one, List.getElem?_eq_getElem h, Option.toList_some, List.map_append]; rfl
theorem OH1 {v : AV} {l : List (List UInt8)} (h : OH H v 9 1 (l.map AV.str) l.length) : v.st = true ∧ v.cells = [v] := TH.one (l := l) h.rh
theorem good51 {a : AskR} {vn vd : AV} (hn : TH H vn a.names) (hd : BH H vd a.data) (g : a.Rng) : AC Try.prog 51 [.agg (a.cells vn vd)] ⟨H, S⟩ (fun v M' => ∃ H', M' = ⟨H', S⟩ ∧ UpdH no H H' ∧ AskO H' H.length v a.good) := by
  refine AC_of_WE Try.func51 rfl ?_
  simp only [Try.ntmps51, List.length_cons, List.length_nil, List.replicate, List.cons_append, List.nil_append, mem_enter]
  have c11 := fun b : AskR => cells_st2 b hn.one.1 hd.one.1
  have c00 := fun b : AskR => cells_st2 b (vn := .nilsl) (vd := .nilsl) rfl rfl
  have hz : IntKind.wrap .i64 (around a.size 4294967296 - 1) = around a.size 4294967296 - 1 := by
    have := around_range (n := a.size) (k := 4294967296) (by decide)
    exact wrap_i64 (by omega) (by omega)
  (repeat refine W_seq ?_); refine W_regionT [] ?_
  simp only [go_sem, kboxL (c11 a), kallocL, List.nil_append, List.cons_append, List.length_nil, List.length_cons, Nat.zero_add, Nat.reduceAdd]
  (repeat refine W_seq ?_); refine W_regionD [] [25, 26] [0, 1, 2, 3, 4, 5, 6, 7, 8, 9, 10, 11, 12, 13, 14, 15, 16, 17, 18, 19, 20, 21, 22, 23, 24, 25, 26] [0, 1, 3, 0, 8, 31, 0, 64, 255, 0, 512, 2047, 0, 4096, 16383, 0, 32768, 131071, 0, 262144, 1048575, 0, 2097152, 8388607, 16777215, 0, 67108863] mixedM (by kernel_rfl) (by kernel_rfl) (by kernel_rfl) ?_
  simp only [listed, go_sem, bld8]
  refine AD_read (v := .ptr ⟨S.length + 1, 0, 0⟩) (fun M' => M'.get (S.length + 1) 0 = some (Block.row ⟨72, 14, AskR.cells a vn vd, false, false⟩)) rfl rfl (fun M' h => by show pureV (fieldAddrA Try.prog 72 (.ptr ⟨S.length + 1, 0, 0⟩) 0 M') M' = _; rw [ka0 h]; rfl) (gt0) ?_
  simp only [go_sem, bld8]
  refine AD_read (v := .int .i64 a.ty) (fun M' => M'.get (S.length + 1) 0 = some (Block.row ⟨72, 14, AskR.cells a vn vd, false, false⟩)) rfl rfl (fun M' h => by show pureV (loadA Try.prog 3 (.ptr ⟨S.length + 1, 0, 0⟩) M') M' = _; rw [kl0 h]; rfl) (gt0) ?_
  simp only [go_sem, bld8]
  refine AD_quiet (v := .int .i64 (kindOf a.ty)) rfl rfl rfl (fun M => kindQ g.ty) ?_
  simp only [go_sem, bld8]
  refine AD_read (v := .ptr ⟨S.length + 1, 0, 1⟩) (fun M' => M'.get (S.length + 1) 0 = some (Block.row ⟨72, 14, AskR.cells a vn vd, false, false⟩)) rfl rfl (fun M' h => by show pureV (fieldAddrA Try.prog 72 (.ptr ⟨S.length + 1, 0, 0⟩) 1 M') M' = _; rw [ka1 h]; rfl) (gt0) ?_
  simp only [go_sem, bld8]
  refine AD_read (v := .int .i64 a.tag) (fun M' => M'.get (S.length + 1) 0 = some (Block.row ⟨72, 14, AskR.cells a vn vd, false, false⟩)) rfl rfl (fun M' h => by show pureV (loadA Try.prog 3 (.ptr ⟨S.length + 1, 0, 1⟩) M') M' = _; rw [kl1 h]; rfl) (gt0) ?_
  simp only [go_sem, bld8]
  refine AD_quiet (v := .int .i64 (around a.tag 65536)) rfl rfl rfl (fun M => aroundQ g.tag (by decide)) ?_
  simp only [go_sem, bld8]
  refine AD_read (v := .ptr ⟨S.length + 1, 0, 2⟩) (fun M' => M'.get (S.length + 1) 0 = some (Block.row ⟨72, 14, AskR.cells a vn vd, false, false⟩)) rfl rfl (fun M' h => by show pureV (fieldAddrA Try.prog 72 (.ptr ⟨S.length + 1, 0, 0⟩) 2 M') M' = _; rw [ka2 h]; rfl) (gt0) ?_
  simp only [go_sem, bld8]
  refine AD_read (v := .int .i64 a.fid) (fun M' => M'.get (S.length + 1) 0 = some (Block.row ⟨72, 14, AskR.cells a vn vd, false, false⟩)) rfl rfl (fun M' h => by show pureV (loadA Try.prog 3 (.ptr ⟨S.length + 1, 0, 2⟩) M') M' = _; rw [kl2 h]; rfl) (gt0) ?_
  simp only [go_sem, bld8]
  refine AD_quiet (v := .int .i64 (around a.fid 4294967296)) rfl rfl rfl (fun M => lowQ g.fid) ?_
  simp only [go_sem, bld8]
  refine AD_read (v := .ptr ⟨S.length + 1, 0, 3⟩) (fun M' => M'.get (S.length + 1) 0 = some (Block.row ⟨72, 14, AskR.cells a vn vd, false, false⟩)) rfl rfl (fun M' h => by show pureV (fieldAddrA Try.prog 72 (.ptr ⟨S.length + 1, 0, 0⟩) 3 M') M' = _; rw [ka3 h]; rfl) (gt0) ?_
  simp only [go_sem, bld8]
  refine AD_read (v := .int .i64 a.newfid) (fun M' => M'.get (S.length + 1) 0 = some (Block.row ⟨72, 14, AskR.cells a vn vd, false, false⟩)) rfl rfl (fun M' h => by show pureV (loadA Try.prog 3 (.ptr ⟨S.length + 1, 0, 3⟩) M') M' = _; rw [kl3 h]; rfl) (gt0) ?_
  simp only [go_sem, bld8]
  refine AD_quiet (v := .int .i64 (around a.newfid 4294967296)) rfl rfl rfl (fun M => lowQ g.newfid) ?_
  simp only [go_sem, bld8]
  refine AD_read (v := .ptr ⟨S.length + 1, 0, 4⟩) (fun M' => M'.get (S.length + 1) 0 = some (Block.row ⟨72, 14, AskR.cells a vn vd, false, false⟩)) rfl rfl (fun M' h => by show pureV (fieldAddrA Try.prog 72 (.ptr ⟨S.length + 1, 0, 0⟩) 4 M') M' = _; rw [ka4 h]; rfl) (gt0) ?_
  simp only [go_sem, bld8]
  refine AD_read (v := .int .i64 a.oldtag) (fun M' => M'.get (S.length + 1) 0 = some (Block.row ⟨72, 14, AskR.cells a vn vd, false, false⟩)) rfl rfl (fun M' h => by show pureV (loadA Try.prog 3 (.ptr ⟨S.length + 1, 0, 4⟩) M') M' = _; rw [kl4 h]; rfl) (gt0) ?_
  simp only [go_sem, bld8]
  refine AD_quiet (v := .int .i64 (around a.oldtag 65536)) rfl rfl rfl (fun M => aroundQ g.oldtag (by decide)) ?_
  simp only [go_sem, bld8]
  refine AD_read (v := .ptr ⟨S.length + 1, 0, 5⟩) (fun M' => M'.get (S.length + 1) 0 = some (Block.row ⟨72, 14, AskR.cells a vn vd, false, false⟩)) rfl rfl (fun M' h => by show pureV (fieldAddrA Try.prog 72 (.ptr ⟨S.length + 1, 0, 0⟩) 5 M') M' = _; rw [ka5 h]; rfl) (gt0) ?_
  simp only [go_sem, bld8]
  refine AD_read (v := .int .i64 a.msize) (fun M' => M'.get (S.length + 1) 0 = some (Block.row ⟨72, 14, AskR.cells a vn vd, false, false⟩)) rfl rfl (fun M' h => by show pureV (loadA Try.prog 3 (.ptr ⟨S.length + 1, 0, 5⟩) M') M' = _; rw [kl5 h]; rfl) (gt0) ?_
  simp only [go_sem, bld8]
  refine AD_quiet (v := .int .i64 (around a.msize 4294967296)) rfl rfl rfl (fun M => lowQ g.msize) ?_
  simp only [go_sem, bld8]
  refine AD_read (v := .ptr ⟨S.length + 1, 0, 6⟩) (fun M' => M'.get (S.length + 1) 0 = some (Block.row ⟨72, 14, AskR.cells a vn vd, false, false⟩)) rfl rfl (fun M' h => by show pureV (fieldAddrA Try.prog 72 (.ptr ⟨S.length + 1, 0, 0⟩) 6 M') M' = _; rw [ka6 h]; rfl) (gt0) ?_
  simp only [go_sem, bld8]
  refine AD_read (v := .int .i64 a.mode) (fun M' => M'.get (S.length + 1) 0 = some (Block.row ⟨72, 14, AskR.cells a vn vd, false, false⟩)) rfl rfl (fun M' h => by show pureV (loadA Try.prog 3 (.ptr ⟨S.length + 1, 0, 6⟩) M') M' = _; rw [kl6 h]; rfl) (gt0) ?_
  simp only [go_sem, bld8]
  refine AD_quiet (v := .int .i64 (around a.mode 256)) rfl rfl rfl (fun M => aroundQ g.mode (by decide)) ?_
  simp only [go_sem, bld8]
  refine AD_read (v := .ptr ⟨S.length + 1, 0, 7⟩) (fun M' => M'.get (S.length + 1) 0 = some (Block.row ⟨72, 14, AskR.cells a vn vd, false, false⟩)) rfl rfl (fun M' h => by show pureV (fieldAddrA Try.prog 72 (.ptr ⟨S.length + 1, 0, 0⟩) 7 M') M' = _; rw [ka7 h]; rfl) (gt0) ?_
  simp only [go_sem, bld8]
  refine AD_read (v := .int .i64 a.perm) (fun M' => M'.get (S.length + 1) 0 = some (Block.row ⟨72, 14, AskR.cells a vn vd, false, false⟩)) rfl rfl (fun M' h => by show pureV (loadA Try.prog 3 (.ptr ⟨S.length + 1, 0, 7⟩) M') M' = _; rw [kl7 h]; rfl) (gt0) ?_
  simp only [go_sem, bld8]
  refine AD_quiet (v := .int .i64 (around a.perm 4294967296)) rfl rfl rfl (fun M => lowQ g.perm) ?_
  simp only [go_sem, bld8]
  refine AD_loud (v := .ptr ⟨S.length + 1, 2, 0⟩) (M' := ⟨H, [Block.row ⟨72, 14, AskR.cells a vn vd, false, false⟩, Block.row ⟨72, 14, AskR.cells AskR.z .nilsl .nilsl, false, false⟩, Block.row ⟨72, 14, AskR.cells AskR.z .nilsl .nilsl, false, false⟩] :: S⟩) rfl (by show allocA Try.prog 72 false _ = _; exact kallocL) ⟨fun _ => gt0, fun _ => gt0, fun _ => gt0, fun _ => gt0, fun _ => gt0, fun _ => gt0, fun _ => gt0, fun _ => gt0, fun _ => gt0, fun _ => gt0, fun _ => gt0, fun _ => gt0, fun _ => gt0, fun _ => gt0, fun _ => gt0, fun _ => gt0, trivial⟩ ?_
  simp only [go_sem, bld8]
  refine AD_loud (v := .undef) (M' := ⟨H, [Block.row ⟨72, 14, AskR.cells a vn vd, false, false⟩, Block.row ⟨72, 14, AskR.cells AskR.z .nilsl .nilsl, false, false⟩, Block.row ⟨72, 14, AskR.cells ⟨kindOf a.ty, around a.tag 65536, around a.fid 4294967296, around a.newfid 4294967296, around a.oldtag 65536, around a.msize 4294967296, around a.mode 256, around a.perm 4294967296, 0, 0, [], [], 0, []⟩ .nilsl .nilsl, false, false⟩] :: S⟩) rfl (kS_2 (c00 _)) ⟨fun ha => absurd (ha.symm.trans (show ancB _ _ _ _ = true by kernel_rfl)) (by decide), fun ha => absurd (ha.symm.trans (show ancB _ _ _ _ = true by kernel_rfl)) (by decide), fun ha => absurd (ha.symm.trans (show ancB _ _ _ _ = true by kernel_rfl)) (by decide), fun ha => absurd (ha.symm.trans (show ancB _ _ _ _ = true by kernel_rfl)) (by decide), fun ha => absurd (ha.symm.trans (show ancB _ _ _ _ = true by kernel_rfl)) (by decide), fun ha => absurd (ha.symm.trans (show ancB _ _ _ _ = true by kernel_rfl)) (by decide), fun ha => absurd (ha.symm.trans (show ancB _ _ _ _ = true by kernel_rfl)) (by decide), fun ha => absurd (ha.symm.trans (show ancB _ _ _ _ = true by kernel_rfl)) (by decide), fun ha => absurd (ha.symm.trans (show ancB _ _ _ _ = true by kernel_rfl)) (by decide), fun ha => absurd (ha.symm.trans (show ancB _ _ _ _ = true by kernel_rfl)) (by decide), fun ha => absurd (ha.symm.trans (show ancB _ _ _ _ = true by kernel_rfl)) (by decide), fun ha => absurd (ha.symm.trans (show ancB _ _ _ _ = true by kernel_rfl)) (by decide), fun ha => absurd (ha.symm.trans (show ancB _ _ _ _ = true by kernel_rfl)) (by decide), fun ha => absurd (ha.symm.trans (show ancB _ _ _ _ = true by kernel_rfl)) (by decide), fun ha => absurd (ha.symm.trans (show ancB _ _ _ _ = true by kernel_rfl)) (by decide), fun ha => absurd (ha.symm.trans (show ancB _ _ _ _ = true by kernel_rfl)) (by decide), trivial⟩ ?_
  simp only [go_sem, bld8]
  (repeat refine W_seq ?_); refine W_regionT [] ?_
  simp only [go_sem, ka8_0, kl8_0, ka8_2, ks8_2]
  refine AT_call rfl rfl (aroundF g.off.1 g.off.2 (by decide)) fun v M1 hd1 h1 => ?_
  obtain ⟨hv, hM⟩ := h1; subst hv; subst hM
  simp only [go_sem, ka8_0, kl8_0, ka8_2, ks8_2]
  (repeat refine W_seq ?_); refine W_regionT [] ?_
  simp only [go_sem, ka9_0, kl9_0, ka9_2, ks9_2]
  refine AT_call rfl rfl (low91 g.count) fun v M1 hd1 h1 => ?_
  obtain ⟨hv, hM⟩ := h1; subst hv; subst hM
  simp only [go_sem, ka9_0, kl9_0, ka9_2, ks9_2]
  (repeat refine W_seq ?_); refine W_regionT [] ?_
  simp only [go_sem, ka12_0, kl12_0, ka12_2, ks12_2, hz]
  refine AT_call rfl rfl (low91 g.size) fun v M1 hd1 h1 => ?_
  obtain ⟨hv, hM⟩ := h1; subst hv; subst hM
  simp only [go_sem, ka12_0, kl12_0, ka12_2, ks12_2, hz]
  (repeat refine W_seq ?_); refine W_regionT [] ?_
  simp only [go_sem, ka10_0, kl10_0, ka10_2, ks10_2]
  refine AT_call rfl rfl (short89 (n := 40)) fun v M1 hd1 h1 => ?_
  obtain ⟨hv, hM⟩ := h1; subst hv; subst hM
  simp only [go_sem, ka10_0, kl10_0, ka10_2, ks10_2]
  (repeat refine W_seq ?_); refine W_regionT [] ?_
  simp only [go_sem]
  (repeat refine W_seq ?_)
  refine W_block (W_loop (L_inv (fun j env M' => ∃ (x5 x6 x7 x8 x9 x10 x11 x12 x13 x14 x15 x16 x17 x18 x19 x20 x21 x22 x23 x24 x25 x26 x27 x28 x29 x30 x31 x32 x33 x34 x35 x36 x37 x38 x39 x40 x41 x42 x43 x44 x45 x46 x47 x48 x49 x50 x51 x52 x53 x54 x55 x56 x57 x58 x59 x60 x61 x62 x63 x64 x65 x66 x67 x68 x69 x70 x71 x72 x73 x74 : AV) (v' : AV) (i : Nat) (G : List Block), env = [.agg (a.cells vn vd), .ptr ⟨S.length + 1, 0, 0⟩, .ptr ⟨S.length + 1, 1, 0⟩, .ptr ⟨S.length + 1, 2, 0⟩, .int .i64 i, x5, x6, x7, x8, x9, x10, x11, x12, x13, x14, x15, x16, x17, x18, x19, x20, x21, x22, x23, x24, x25, x26, x27, x28, x29, x30, x31, x32, x33, x34, x35, x36, x37, x38, x39, x40, x41, x42, x43, x44, x45, x46, x47, x48, x49, x50, x51, x52, x53, x54, x55, x56, x57, x58, x59, x60, x61, x62, x63, x64, x65, x66, x67, x68, x69, x70, x71, x72, x73, x74] ∧ i + j = min a.names.length 8 ∧ M' = ⟨G, [Block.row ⟨72, 14, AskR.cells a vn vd, false, false⟩, Block.row ⟨72, 14, AskR.cells AskR.z .nilsl .nilsl, false, false⟩, Block.row ⟨72, 14, AskR.cells ⟨kindOf a.ty, around a.tag 65536, around a.fid 4294967296, around a.newfid 4294967296, around a.oldtag 65536, around a.msize 4294967296, around a.mode 256, around a.perm 4294967296, around a.off 4611686018427387905, around a.count 4294967296, a.name.take 40, (a.names.take i).map (List.take 40), around a.size 4294967296 - 1, []⟩ v' .nilsl, false, false⟩] :: S⟩ ∧ UpdH no H G ∧ OH G v' 9 1 (((a.names.take i).map (List.take 40)).map AV.str) ((a.names.take i).map (List.take 40)).length ∧ ∀ k, v'.loc k → H.length ≤ k) (fun j env M2 => ?_) (min a.names.length 8) ?_))
  case refine_2 => exact ⟨_, _, _, _, _, _, _, _, _, _, _, _, _, _, _, _, _, _, _, _, _, _, _, _, _, _, _, _, _, _, _, _, _, _, _, _, _, _, _, _, _, _, _, _, _, _, _, _, _, _, _, _, _, _, _, _, _, _, _, _, _, _, _, _, _, _, _, _, _, _, .nilsl, 0, H, rfl, by omega, rfl, UpdH.refl, OH.nil, fun k h => h.elim⟩
  refine exE fun x5 => exE fun x6 => exE fun x7 => exE fun x8 => exE fun x9 => exE fun x10 => exE fun x11 => exE fun x12 => exE fun x13 => exE fun x14 => exE fun x15 => exE fun x16 => exE fun x17 => exE fun x18 => exE fun x19 => exE fun x20 => exE fun x21 => exE fun x22 => exE fun x23 => exE fun x24 => exE fun x25 => exE fun x26 => exE fun x27 => exE fun x28 => exE fun x29 => exE fun x30 => exE fun x31 => exE fun x32 => exE fun x33 => exE fun x34 => exE fun x35 => exE fun x36 => exE fun x37 => exE fun x38 => exE fun x39 => exE fun x40 => exE fun x41 => exE fun x42 => exE fun x43 => exE fun x44 => exE fun x45 => exE fun x46 => exE fun x47 => exE fun x48 => exE fun x49 => exE fun x50 => exE fun x51 => exE fun x52 => exE fun x53 => exE fun x54 => exE fun x55 => exE fun x56 => exE fun x57 => exE fun x58 => exE fun x59 => exE fun x60 => exE fun x61 => exE fun x62 => exE fun x63 => exE fun x64 => exE fun x65 => exE fun x66 => exE fun x67 => exE fun x68 => exE fun x69 => exE fun x70 => exE fun x71 => exE fun x72 => exE fun x73 => exE fun x74 => ?_
  rintro ⟨v', i, G, rfl, hij, rfl, uG, hoh, hlo⟩
  (repeat refine W_seq ?_)
  refine W_mid (fun env M' => ∃ (y5 y6 y7 y8 y9 y10 y11 y12 y13 y14 y15 y16 y17 y18 y19 y20 y21 y22 y23 y24 y25 y26 y27 y28 y29 y30 y31 y32 y33 y34 y35 y36 y37 y38 y39 y40 y41 y42 y43 y44 y45 y46 y47 y48 y49 y50 y51 y52 y53 y54 y56 y57 y58 y59 y60 y61 y62 y63 y64 y65 y66 y67 y68 y69 y70 y71 y72 y73 y74 : AV) (p : Bool), env = [.agg (a.cells vn vd), .ptr ⟨S.length + 1, 0, 0⟩, .ptr ⟨S.length + 1, 1, 0⟩, .ptr ⟨S.length + 1, 2, 0⟩, .int .i64 i, y5, y6, y7, y8, y9, y10, y11, y12, y13, y14, y15, y16, y17, y18, y19, y20, y21, y22, y23, y24, y25, y26, y27, y28, y29, y30, y31, y32, y33, y34, y35, y36, y37, y38, y39, y40, y41, y42, y43, y44, y45, y46, y47, y48, y49, y50, y51, y52, y53, y54, .bool p, y56, y57, y58, y59, y60, y61, y62, y63, y64, y65, y66, y67, y68, y69, y70, y71, y72, y73, y74] ∧ p = decide (i < a.names.length ∧ i < 8) ∧ M' = ⟨G, [Block.row ⟨72, 14, AskR.cells a vn vd, false, false⟩, Block.row ⟨72, 14, AskR.cells AskR.z .nilsl .nilsl, false, false⟩, Block.row ⟨72, 14, AskR.cells ⟨kindOf a.ty, around a.tag 65536, around a.fid 4294967296, around a.newfid 4294967296, around a.oldtag 65536, around a.msize 4294967296, around a.mode 256, around a.perm 4294967296, around a.off 4611686018427387905, around a.count 4294967296, a.name.take 40, (a.names.take i).map (List.take 40), around a.size 4294967296 - 1, []⟩ v' .nilsl, false, false⟩] :: S⟩) ?_ ?_
  · rcases (show i < a.names.length ∨ ¬ i < a.names.length by omega) with h | h
    · have hc : decide ((i : Int) < (a.names.length : Int)) = true := by simp; omega
      (repeat refine W_seq ?_); refine W_regionT [] ?_
      simp only [go_sem, hc, (hn.new uG).len, ka0_0, ka1_0, ka2_0, ka3_0, ka4_0, ka5_0, ka6_0, ka7_0, ka8_0, ka9_0, ka10_0, ka11_0, ka12_0, ka13_0, kl0_0, kl1_0, kl2_0, kl3_0, kl4_0, kl5_0, kl6_0, kl7_0, kl8_0, kl9_0, kl10_0, kl11_0, kl12_0, kl13_0, kL_0]
      exact ⟨_, _, _, _, _, _, _, _, _, _, _, _, _, _, _, _, _, _, _, _, _, _, _, _, _, _, _, _, _, _, _, _, _, _, _, _, _, _, _, _, _, _, _, _, _, _, _, _, _, _, _, _, _, _, _, _, _, _, _, _, _, _, _, _, _, _, _, _, _, _, rfl, by rw [Bool.eq_iff_iff]; simp; omega, rfl⟩
    · have hc : decide ((i : Int) < (a.names.length : Int)) = false := by simp; omega
      (repeat refine W_seq ?_); refine W_regionT [] ?_
      simp only [go_sem, hc, (hn.new uG).len, ka0_0, ka1_0, ka2_0, ka3_0, ka4_0, ka5_0, ka6_0, ka7_0, ka8_0, ka9_0, ka10_0, ka11_0, ka12_0, ka13_0, kl0_0, kl1_0, kl2_0, kl3_0, kl4_0, kl5_0, kl6_0, kl7_0, kl8_0, kl9_0, kl10_0, kl11_0, kl12_0, kl13_0, kL_0]
      exact ⟨_, _, _, _, _, _, _, _, _, _, _, _, _, _, _, _, _, _, _, _, _, _, _, _, _, _, _, _, _, _, _, _, _, _, _, _, _, _, _, _, _, _, _, _, _, _, _, _, _, _, _, _, _, _, _, _, _, _, _, _, _, _, _, _, _, _, _, _, _, _, rfl, by rw [Bool.eq_iff_iff]; simp; omega, rfl⟩
  refine fun env M' => ?_
  refine exE fun y5 => exE fun y6 => exE fun y7 => exE fun y8 => exE fun y9 => exE fun y10 => exE fun y11 => exE fun y12 => exE fun y13 => exE fun y14 => exE fun y15 => exE fun y16 => exE fun y17 => exE fun y18 => exE fun y19 => exE fun y20 => exE fun y21 => exE fun y22 => exE fun y23 => exE fun y24 => exE fun y25 => exE fun y26 => exE fun y27 => exE fun y28 => exE fun y29 => exE fun y30 => exE fun y31 => exE fun y32 => exE fun y33 => exE fun y34 => exE fun y35 => exE fun y36 => exE fun y37 => exE fun y38 => exE fun y39 => exE fun y40 => exE fun y41 => exE fun y42 => exE fun y43 => exE fun y44 => exE fun y45 => exE fun y46 => exE fun y47 => exE fun y48 => exE fun y49 => exE fun y50 => exE fun y51 => exE fun y52 => exE fun y53 => exE fun y54 => exE fun y56 => exE fun y57 => exE fun y58 => exE fun y59 => exE fun y60 => exE fun y61 => exE fun y62 => exE fun y63 => exE fun y64 => exE fun y65 => exE fun y66 => exE fun y67 => exE fun y68 => exE fun y69 => exE fun y70 => exE fun y71 => exE fun y72 => exE fun y73 => exE fun y74 => ?_
  rintro ⟨p, rfl, rfl, rfl⟩
  (repeat refine W_seq ?_)
  refine W_cond_if rfl (fun hb => ?_) (fun hb => ?_)
  · have hi : i < a.names.length ∧ i < 8 := by simpa using hb
    refine W_skip ?_
    simp only [go_sem]
    (repeat refine W_seq ?_)
    refine W_block ?_
    obtain ⟨v2, G2, hap, oh2, u2, l2⟩ := th_snoc (S := [Block.row ⟨72, 14, AskR.cells a vn vd, false, false⟩, Block.row ⟨72, 14, AskR.cells AskR.z .nilsl .nilsl, false, false⟩, Block.row ⟨72, 14, AskR.cells ⟨kindOf a.ty, around a.tag 65536, around a.fid 4294967296, around a.newfid 4294967296, around a.oldtag 65536, around a.msize 4294967296, around a.mode 256, around a.perm 4294967296, around a.off 4611686018427387905, around a.count 4294967296, a.name.take 40, (a.names.take i).map (List.take 40), around a.size 4294967296 - 1, []⟩ v' .nilsl, false, false⟩] :: S) (s := a.names[i].take 40) hoh (by simp; omega)
    (repeat refine W_seq ?_); refine W_regionD [66, 67] [8, 9, 11] [0, 1, 2, 3, 4, 5, 6, 7, 8, 9, 10, 11] [0, 1, 0, 4, 0, 28, 60, 124, 252, 511, 1023, 2047] mixedM (by kernel_rfl) (by kernel_rfl) (by kernel_rfl) ?_
    simp only [listed, go_sem]
    refine AD_read (v := .ptr ⟨S.length + 1, 2, 11⟩) (fun M' => M'.get (S.length + 1) 2 = some (Block.row ⟨72, 14, AskR.cells ⟨kindOf a.ty, around a.tag 65536, around a.fid 4294967296, around a.newfid 4294967296, around a.oldtag 65536, around a.msize 4294967296, around a.mode 256, around a.perm 4294967296, around a.off 4611686018427387905, around a.count 4294967296, a.name.take 40, (a.names.take i).map (List.take 40), around a.size 4294967296 - 1, []⟩ v' .nilsl, false, false⟩)) rfl rfl (fun M' h => by show pureV (fieldAddrA Try.prog 72 (.ptr ⟨S.length + 1, 2, 0⟩) 11 M') M' = _; rw [ka11 h]; rfl) (gt2) ?_
    simp only [go_sem]
    refine AD_read (v := v') (fun M' => M'.get (S.length + 1) 2 = some (Block.row ⟨72, 14, AskR.cells ⟨kindOf a.ty, around a.tag 65536, around a.fid 4294967296, around a.newfid 4294967296, around a.oldtag 65536, around a.msize 4294967296, around a.mode 256, around a.perm 4294967296, around a.off 4611686018427387905, around a.count 4294967296, a.name.take 40, (a.names.take i).map (List.take 40), around a.size 4294967296 - 1, []⟩ v' .nilsl, false, false⟩)) rfl rfl (fun M' h => by show pureV (loadA Try.prog 70 (.ptr ⟨S.length + 1, 2, 11⟩) M') M' = _; rw [kl11 h]; rfl) (gt2) ?_
    simp only [go_sem]
    refine AD_read (v := .ptr ⟨S.length + 1, 0, 11⟩) (fun M' => M'.get (S.length + 1) 0 = some (Block.row ⟨72, 14, AskR.cells a vn vd, false, false⟩)) rfl rfl (fun M' h => by show pureV (fieldAddrA Try.prog 72 (.ptr ⟨S.length + 1, 0, 0⟩) 11 M') M' = _; rw [ka11 h]; rfl) (gt0) ?_
    simp only [go_sem]
    refine AD_read (v := vn) (fun M' => M'.get (S.length + 1) 0 = some (Block.row ⟨72, 14, AskR.cells a vn vd, false, false⟩)) rfl rfl (fun M' h => by show pureV (loadA Try.prog 70 (.ptr ⟨S.length + 1, 0, 11⟩) M') M' = _; rw [kl11 h]; rfl) (gt0) ?_
    simp only [go_sem]
    refine AD_read (v := idx vn i) (fun M' => indexAddrA Try.prog 70 vn (.int .i64 i) M' = some (idx vn i) ∧ loadA Try.prog 9 (idx vn i) M' = some (.str a.names[i])) rfl rfl (fun M' h => by show pureV (indexAddrA Try.prog 70 vn (.int .i64 i) M') M' = _; rw [h.1]; rfl) (at70 (hn.new uG) hi.1) ?_
    simp only [go_sem]
    refine AD_read (v := .str a.names[i]) (fun M' => indexAddrA Try.prog 70 vn (.int .i64 i) M' = some (idx vn i) ∧ loadA Try.prog 9 (idx vn i) M' = some (.str a.names[i])) rfl rfl (fun M' h => by show pureV (loadA Try.prog 9 (idx vn i) M') M' = _; rw [h.2]; rfl) (at70 (hn.new uG) hi.1) ?_
    simp only [go_sem]
    refine AD_quiet (v := .str (a.names[i].take 40)) rfl rfl rfl (fun M => shortQ (n := 40)) ?_
    simp only [go_sem]
    refine AD_loud (v := .sl ⟨0, G.length, 0⟩ 1 (some 1)) (M' := ⟨G ++ [.row ⟨9, 1, [.str (a.names[i].take 40)], false, false⟩], [Block.row ⟨72, 14, AskR.cells a vn vd, false, false⟩, Block.row ⟨72, 14, AskR.cells AskR.z .nilsl .nilsl, false, false⟩, Block.row ⟨72, 14, AskR.cells ⟨kindOf a.ty, around a.tag 65536, around a.fid 4294967296, around a.newfid 4294967296, around a.oldtag 65536, around a.msize 4294967296, around a.mode 256, around a.perm 4294967296, around a.off 4611686018427387905, around a.count 4294967296, a.name.take 40, (a.names.take i).map (List.take 40), around a.size 4294967296 - 1, []⟩ v' .nilsl, false, false⟩] :: S⟩) rfl (by show buildSliceA Try.prog 70 true 1 [(0, .str (a.names[i].take 40))] _ = _; exact one70) ⟨fun ha => absurd (ha.symm.trans (show ancB _ _ _ _ = true by kernel_rfl)) (by decide), fun ha => absurd (ha.symm.trans (show ancB _ _ _ _ = true by kernel_rfl)) (by decide), fun ha => absurd (ha.symm.trans (show ancB _ _ _ _ = true by kernel_rfl)) (by decide), fun ha => absurd (ha.symm.trans (show ancB _ _ _ _ = true by kernel_rfl)) (by decide), fun _ => gt2, fun _ => gt2, trivial⟩ ?_
    simp only [go_sem]
    refine AD_loud (v := v2) (M' := ⟨G2, [Block.row ⟨72, 14, AskR.cells a vn vd, false, false⟩, Block.row ⟨72, 14, AskR.cells AskR.z .nilsl .nilsl, false, false⟩, Block.row ⟨72, 14, AskR.cells ⟨kindOf a.ty, around a.tag 65536, around a.fid 4294967296, around a.newfid 4294967296, around a.oldtag 65536, around a.msize 4294967296, around a.mode 256, around a.perm 4294967296, around a.off 4611686018427387905, around a.count 4294967296, a.name.take 40, (a.names.take i).map (List.take 40), around a.size 4294967296 - 1, []⟩ v' .nilsl, false, false⟩] :: S⟩) rfl (hap) ⟨fun ha => absurd (ha.symm.trans (show ancB _ _ _ _ = true by kernel_rfl)) (by decide), fun ha => absurd (ha.symm.trans (show ancB _ _ _ _ = true by kernel_rfl)) (by decide), fun ha => absurd (ha.symm.trans (show ancB _ _ _ _ = true by kernel_rfl)) (by decide), fun ha => absurd (ha.symm.trans (show ancB _ _ _ _ = true by kernel_rfl)) (by decide), fun ha => absurd (ha.symm.trans (show ancB _ _ _ _ = true by kernel_rfl)) (by decide), fun ha => absurd (ha.symm.trans (show ancB _ _ _ _ = true by kernel_rfl)) (by decide), trivial⟩ ?_
    simp only [go_sem]
    refine AD_read (v := .ptr ⟨S.length + 1, 2, 11⟩) (fun M' => M'.get (S.length + 1) 2 = some (Block.row ⟨72, 14, AskR.cells ⟨kindOf a.ty, around a.tag 65536, around a.fid 4294967296, around a.newfid 4294967296, around a.oldtag 65536, around a.msize 4294967296, around a.mode 256, around a.perm 4294967296, around a.off 4611686018427387905, around a.count 4294967296, a.name.take 40, (a.names.take i).map (List.take 40), around a.size 4294967296 - 1, []⟩ v' .nilsl, false, false⟩)) rfl rfl (fun M' h => by show pureV (fieldAddrA Try.prog 72 (.ptr ⟨S.length + 1, 2, 0⟩) 11 M') M' = _; rw [ka11 h]; rfl) (gt2) ?_
    simp only [go_sem]
    refine AD_loud (v := .undef) (M' := ⟨G2, [Block.row ⟨72, 14, AskR.cells a vn vd, false, false⟩, Block.row ⟨72, 14, AskR.cells AskR.z .nilsl .nilsl, false, false⟩, Block.row ⟨72, 14, AskR.cells ⟨kindOf a.ty, around a.tag 65536, around a.fid 4294967296, around a.newfid 4294967296, around a.oldtag 65536, around a.msize 4294967296, around a.mode 256, around a.perm 4294967296, around a.off 4611686018427387905, around a.count 4294967296, a.name.take 40, (a.names.take i).map (List.take 40) ++ [a.names[i].take 40], around a.size 4294967296 - 1, []⟩ v2 .nilsl, false, false⟩] :: S⟩) rfl (ks11_2 (OH1 oh2).1 (OH1 oh2).2) ⟨fun ha => absurd (ha.symm.trans (show ancB _ _ _ _ = true by kernel_rfl)) (by decide), fun ha => absurd (ha.symm.trans (show ancB _ _ _ _ = true by kernel_rfl)) (by decide), fun ha => absurd (ha.symm.trans (show ancB _ _ _ _ = true by kernel_rfl)) (by decide), fun ha => absurd (ha.symm.trans (show ancB _ _ _ _ = true by kernel_rfl)) (by decide), fun ha => absurd (ha.symm.trans (show ancB _ _ _ _ = true by kernel_rfl)) (by decide), fun ha => absurd (ha.symm.trans (show ancB _ _ _ _ = true by kernel_rfl)) (by decide), fun ha => absurd (ha.symm.trans (show ancB _ _ _ _ = true by kernel_rfl)) (by decide), trivial⟩ ?_
    simp only [go_sem]
    (repeat refine W_seq ?_); refine W_regionT [] ?_
    simp only [go_sem, show (i : Int) + 1 = ((i + 1 : Nat) : Int) from rfl, wrap_i64 (n := ((i + 1 : Nat) : Int)) (by omega) (by omega)]
    refine ⟨j - 1, by omega, _, _, _, _, _, _, _, _, _, _, _, _, _, _, _, _, _, _, _, _, _, _, _, _, _, _, _, _, _, _, _, _, _, _, _, _, _, _, _, _, _, _, _, _, _, _, _, _, _, _, _, _, _, _, _, _, _, _, _, _, _, _, _, _, _, _, _, _, _, _, v2, i + 1, G2, rfl, by omega, by rw [snocT hi.1], uG.then u2 (fun k hk h => by have := hlo k h; omega), by rw [snocT hi.1]; exact oh2, fun k hk => (l2 k hk).elim (hlo k) (fun h => Nat.le_trans uG.l h)⟩
  · have hi : i = min a.names.length 8 := by simp at hb; omega
    subst hi
    (repeat refine W_seq ?_)
    refine W_exit ?_
    simp only [go_sem]
    rw [take_min] at hoh
    (repeat refine W_seq ?_); refine W_regionT [] ?_
    simp only [go_sem, ka13_0, kl13_0, ka13_2]
    refine AT_call rfl rfl (fewB (n := 30) (hd.new uG) (by decide)) fun v M1 hd1 h1 => ?_
    obtain ⟨G3, rfl, u3, b3, l3⟩ := h1
    have c3 := fun b : AskR => cells_st2 b (OH1 hoh).1 b3.one.1
    simp only [go_sem, ka13_2, take_min, ks13_2 b3.one.1 b3.one.2]
    (repeat refine W_seq ?_); refine W_regionT [] ?_
    simp only [go_sem, kL_2]
    refine AT_call rfl rfl (own92 (a := a.raw) (hoh.new u3).rh b3) fun v M1 hd1 h1 => ?_
    obtain ⟨hv, hM⟩ := h1; subst hv; subst hM
    have oh4 := AskR.own_oh (a := a.raw) (hoh.new u3)
    have bd4 := AskR.own_bh (a := a.raw) b3
    have c4 := cells_st2 a.raw.own (OH1 oh4).1 bd4.one.1
    simp only [go_sem, kS_1 c4]
    refine W_ret ⟨.inr rfl, [.agg (AskR.cells a.raw.own (a.raw.ownN v') (a.raw.ownD v))], ?_, ?_, G3, rfl, uG.then u3 (fun _ _ h => h), _, _, rfl, oh4, bd4, fun k hk => hlo k (AskR.ownN_loc hk), fun k hk => Nat.le_trans uG.l (l3 k (AskR.ownD_loc hk)), fun k hk hk2 => by have := RH.lt hoh.rh (AskR.ownN_loc hk); have := l3 k (AskR.ownD_loc hk2); omega⟩
    · show (match loadA Try.prog 72 (.ptr ⟨S.length + 1, 1, 0⟩) _, resE Try.prog _ _ [] with | some v, some vs => some (v :: vs) | _, _ => none) = _
      rw [kL_1]; rfl
    · show (AV.agg _).lev0 = true
      have e : lev0s (AskR.cells a.raw.own (a.raw.ownN v') (a.raw.ownD v)) = true := cells_lev (RH.lev0 oh4.rh) bd4.lev0'
      simp only [AV.lev0, e]
theorem good_short {a : AskR} : a.good.names.length ≤ 8 := by
  show (if hasF a.raw.ty 108 then a.raw.names else []).length ≤ 8
  split
  · simp [AskR.raw]; omega
  · simp
theorem odd52 {a : AskR} {vn vd : AV} {w n : Int} {s : List UInt8} (hn : TH H vn a.names) (hd : BH H vd a.data) (g : a.Rng) (hw : -9223372036854775808 ≤ w ∧ w < 9223372036854775808) : AC Try.prog 52 [.agg (a.cells vn vd), .int .i64 w, .int .i64 n, .str s] ⟨H, S⟩ (fun v M' => ∃ H', M' = ⟨H', S⟩ ∧ UpdH no H H' ∧ AskO H' H.length v (a.odd w n s)) := by
  refine AC_of_WE Try.func52 rfl ?_
  simp only [Try.ntmps52, List.length_cons, List.length_nil, List.replicate, List.cons_append, List.nil_append, mem_enter]
  have c11 := fun b : AskR => cells_st2 b hn.one.1 hd.one.1
  (repeat refine W_seq ?_); refine W_regionT [] ?_
  simp only [go_sem, kboxL (c11 a), kallocL, List.nil_append, List.cons_append, List.length_nil, List.length_cons, Nat.zero_add, Nat.reduceAdd]
  (repeat refine W_seq ?_); refine W_regionT [] ?_
  simp only [go_sem, ka0_0, ka1_0, ka2_0, ka3_0, ka4_0, ka5_0, ka6_0, ka7_0, ka8_0, ka9_0, ka10_0, ka11_0, ka12_0, ka13_0, kl0_0, kl1_0, kl2_0, kl3_0, kl4_0, kl5_0, kl6_0, kl7_0, kl8_0, kl9_0, kl10_0, kl11_0, kl12_0, kl13_0, kL_0]
  refine AT_call rfl rfl (good51 hn hd g) fun v M1 hd1 h1 => ?_
  obtain ⟨G, rfl, uG, wn, wd, rfl, on, bd, ln, ld, ls⟩ := h1
  have c2 := fun b : AskR => cells_st2 b (OH1 on).1 bd.one.1
  simp only [go_sem, kallocL, kS_2 (c2 _), List.nil_append, List.cons_append, List.length_nil, List.length_cons, Nat.zero_add, Nat.reduceAdd]
  (repeat refine W_seq ?_); refine W_regionT [] ?_
  simp only [go_sem]
  refine AT_call rfl rfl (aroundF hw.1 hw.2 (by decide)) fun v M1 hd1 h1 => ?_
  obtain ⟨hv, hM⟩ := h1; subst hv; subst hM
  simp only [go_sem]
  (repeat refine W_seq ?_)
  refine W_block ?_
  (repeat refine W_seq ?_); refine W_regionT [] ?_
  simp only [go_sem]
  (repeat refine W_seq ?_)
  refine W_cond_if rfl (fun hb => ?_) (fun hb => ?_)
  · have hk : around w 13 = 0 := by simpa using hb
    (repeat refine W_seq ?_); refine W_regionT [] ?_
    simp only [go_sem, ka0_2, ks0_2]
    (repeat refine W_seq ?_); refine W_regionT [] ?_
    simp only [go_sem, kL_2, kS_1 (c2 _)]
    have ho : a.odd w n s = { a.good with ty := n } := by unfold AskR.odd; simp [hk]
    refine W_ret ⟨.inr rfl, [.agg (AskR.cells { a.good with ty := n } wn wd)], ?_, ?_, G, rfl, uG, ?_⟩
    · show (match loadA Try.prog 72 (.ptr ⟨S.length + 1, 1, 0⟩) _, resE Try.prog _ _ [] with | some v, some vs => some (v :: vs) | _, _ => none) = _
      rw [kL_1]; rfl
    · show (AV.agg _).lev0 = true
      have e : lev0s (AskR.cells { a.good with ty := n } wn wd) = true := cells_lev (RH.lev0 on.rh) bd.lev0'
      simp only [AV.lev0, e]
    · rw [ho]
      exact ⟨wn, wd, rfl, on, bd, ln, ld, ls⟩
  · have n0 : ¬ around w 13 = 0 := by simpa using hb
    (repeat refine W_seq ?_); refine W_regionT [] ?_
    simp only [go_sem]
    (repeat refine W_seq ?_)
    refine W_cond_if rfl (fun hb => ?_) (fun hb => ?_)
    · have hk : around w 13 = 1 := by simpa using hb
      (repeat refine W_seq ?_); refine W_regionT [] ?_
      simp only [go_sem, ka1_2, ks1_2]
      (repeat refine W_seq ?_); refine W_regionT [] ?_
      simp only [go_sem, kL_2, kS_1 (c2 _)]
      have ho : a.odd w n s = { a.good with tag := n } := by unfold AskR.odd; simp [hk]
      refine W_ret ⟨.inr rfl, [.agg (AskR.cells { a.good with tag := n } wn wd)], ?_, ?_, G, rfl, uG, ?_⟩
      · show (match loadA Try.prog 72 (.ptr ⟨S.length + 1, 1, 0⟩) _, resE Try.prog _ _ [] with | some v, some vs => some (v :: vs) | _, _ => none) = _
        rw [kL_1]; rfl
      · show (AV.agg _).lev0 = true
        have e : lev0s (AskR.cells { a.good with tag := n } wn wd) = true := cells_lev (RH.lev0 on.rh) bd.lev0'
        simp only [AV.lev0, e]
      · rw [ho]
        exact ⟨wn, wd, rfl, on, bd, ln, ld, ls⟩
    · have n1 : ¬ around w 13 = 1 := by simpa using hb
      (repeat refine W_seq ?_); refine W_regionT [] ?_
      simp only [go_sem]
      (repeat refine W_seq ?_)
      refine W_cond_if rfl (fun hb => ?_) (fun hb => ?_)
      · have hk : around w 13 = 2 := by simpa using hb
        (repeat refine W_seq ?_); refine W_regionT [] ?_
        simp only [go_sem, ka2_2, ks2_2]
        (repeat refine W_seq ?_); refine W_regionT [] ?_
        simp only [go_sem, kL_2, kS_1 (c2 _)]
        have ho : a.odd w n s = { a.good with fid := n } := by unfold AskR.odd; simp [hk]
        refine W_ret ⟨.inr rfl, [.agg (AskR.cells { a.good with fid := n } wn wd)], ?_, ?_, G, rfl, uG, ?_⟩
        · show (match loadA Try.prog 72 (.ptr ⟨S.length + 1, 1, 0⟩) _, resE Try.prog _ _ [] with | some v, some vs => some (v :: vs) | _, _ => none) = _
          rw [kL_1]; rfl
        · show (AV.agg _).lev0 = true
          have e : lev0s (AskR.cells { a.good with fid := n } wn wd) = true := cells_lev (RH.lev0 on.rh) bd.lev0'
          simp only [AV.lev0, e]
        · rw [ho]
          exact ⟨wn, wd, rfl, on, bd, ln, ld, ls⟩
      · have n2 : ¬ around w 13 = 2 := by simpa using hb
        (repeat refine W_seq ?_); refine W_regionT [] ?_
        simp only [go_sem]
        (repeat refine W_seq ?_)
        refine W_cond_if rfl (fun hb => ?_) (fun hb => ?_)
        · have hk : around w 13 = 3 := by simpa using hb
          (repeat refine W_seq ?_); refine W_regionT [] ?_
          simp only [go_sem, ka3_2, ks3_2]
          (repeat refine W_seq ?_); refine W_regionT [] ?_
          simp only [go_sem, kL_2, kS_1 (c2 _)]
          have ho : a.odd w n s = { a.good with newfid := n } := by unfold AskR.odd; simp [hk]
          refine W_ret ⟨.inr rfl, [.agg (AskR.cells { a.good with newfid := n } wn wd)], ?_, ?_, G, rfl, uG, ?_⟩
          · show (match loadA Try.prog 72 (.ptr ⟨S.length + 1, 1, 0⟩) _, resE Try.prog _ _ [] with | some v, some vs => some (v :: vs) | _, _ => none) = _
            rw [kL_1]; rfl
          · show (AV.agg _).lev0 = true
            have e : lev0s (AskR.cells { a.good with newfid := n } wn wd) = true := cells_lev (RH.lev0 on.rh) bd.lev0'
            simp only [AV.lev0, e]
          · rw [ho]
            exact ⟨wn, wd, rfl, on, bd, ln, ld, ls⟩
        · have n3 : ¬ around w 13 = 3 := by simpa using hb
          (repeat refine W_seq ?_); refine W_regionT [] ?_
          simp only [go_sem]
          (repeat refine W_seq ?_)
          refine W_cond_if rfl (fun hb => ?_) (fun hb => ?_)
          · have hk : around w 13 = 4 := by simpa using hb
            (repeat refine W_seq ?_); refine W_regionT [] ?_
            simp only [go_sem, ka4_2, ks4_2]
            (repeat refine W_seq ?_); refine W_regionT [] ?_
            simp only [go_sem, kL_2, kS_1 (c2 _)]
            have ho : a.odd w n s = { a.good with oldtag := n } := by unfold AskR.odd; simp [hk]
            refine W_ret ⟨.inr rfl, [.agg (AskR.cells { a.good with oldtag := n } wn wd)], ?_, ?_, G, rfl, uG, ?_⟩
            · show (match loadA Try.prog 72 (.ptr ⟨S.length + 1, 1, 0⟩) _, resE Try.prog _ _ [] with | some v, some vs => some (v :: vs) | _, _ => none) = _
              rw [kL_1]; rfl
            · show (AV.agg _).lev0 = true
              have e : lev0s (AskR.cells { a.good with oldtag := n } wn wd) = true := cells_lev (RH.lev0 on.rh) bd.lev0'
              simp only [AV.lev0, e]
            · rw [ho]
              exact ⟨wn, wd, rfl, on, bd, ln, ld, ls⟩
          · have n4 : ¬ around w 13 = 4 := by simpa using hb
            (repeat refine W_seq ?_); refine W_regionT [] ?_
            simp only [go_sem]
            (repeat refine W_seq ?_)
            refine W_cond_if rfl (fun hb => ?_) (fun hb => ?_)
            · have hk : around w 13 = 5 := by simpa using hb
              (repeat refine W_seq ?_); refine W_regionT [] ?_
              simp only [go_sem, ka5_2, ks5_2]
              (repeat refine W_seq ?_); refine W_regionT [] ?_
              simp only [go_sem, kL_2, kS_1 (c2 _)]
              have ho : a.odd w n s = { a.good with msize := n } := by unfold AskR.odd; simp [hk]
              refine W_ret ⟨.inr rfl, [.agg (AskR.cells { a.good with msize := n } wn wd)], ?_, ?_, G, rfl, uG, ?_⟩
              · show (match loadA Try.prog 72 (.ptr ⟨S.length + 1, 1, 0⟩) _, resE Try.prog _ _ [] with | some v, some vs => some (v :: vs) | _, _ => none) = _
                rw [kL_1]; rfl
              · show (AV.agg _).lev0 = true
                have e : lev0s (AskR.cells { a.good with msize := n } wn wd) = true := cells_lev (RH.lev0 on.rh) bd.lev0'
                simp only [AV.lev0, e]
              · rw [ho]
                exact ⟨wn, wd, rfl, on, bd, ln, ld, ls⟩
            · have n5 : ¬ around w 13 = 5 := by simpa using hb
              (repeat refine W_seq ?_); refine W_regionT [] ?_
              simp only [go_sem]
              (repeat refine W_seq ?_)
              refine W_cond_if rfl (fun hb => ?_) (fun hb => ?_)
              · have hk : around w 13 = 6 := by simpa using hb
                (repeat refine W_seq ?_); refine W_regionT [] ?_
                simp only [go_sem, ka6_2, ks6_2]
                (repeat refine W_seq ?_); refine W_regionT [] ?_
                simp only [go_sem, kL_2, kS_1 (c2 _)]
                have ho : a.odd w n s = { a.good with mode := n } := by unfold AskR.odd; simp [hk]
                refine W_ret ⟨.inr rfl, [.agg (AskR.cells { a.good with mode := n } wn wd)], ?_, ?_, G, rfl, uG, ?_⟩
                · show (match loadA Try.prog 72 (.ptr ⟨S.length + 1, 1, 0⟩) _, resE Try.prog _ _ [] with | some v, some vs => some (v :: vs) | _, _ => none) = _
                  rw [kL_1]; rfl
                · show (AV.agg _).lev0 = true
                  have e : lev0s (AskR.cells { a.good with mode := n } wn wd) = true := cells_lev (RH.lev0 on.rh) bd.lev0'
                  simp only [AV.lev0, e]
                · rw [ho]
                  exact ⟨wn, wd, rfl, on, bd, ln, ld, ls⟩
              · have n6 : ¬ around w 13 = 6 := by simpa using hb
                (repeat refine W_seq ?_); refine W_regionT [] ?_
                simp only [go_sem]
                (repeat refine W_seq ?_)
                refine W_cond_if rfl (fun hb => ?_) (fun hb => ?_)
                · have hk : around w 13 = 7 := by simpa using hb
                  (repeat refine W_seq ?_); refine W_regionT [] ?_
                  simp only [go_sem, ka7_2, ks7_2]
                  (repeat refine W_seq ?_); refine W_regionT [] ?_
                  simp only [go_sem, kL_2, kS_1 (c2 _)]
                  have ho : a.odd w n s = { a.good with perm := n } := by unfold AskR.odd; simp [hk]
                  refine W_ret ⟨.inr rfl, [.agg (AskR.cells { a.good with perm := n } wn wd)], ?_, ?_, G, rfl, uG, ?_⟩
                  · show (match loadA Try.prog 72 (.ptr ⟨S.length + 1, 1, 0⟩) _, resE Try.prog _ _ [] with | some v, some vs => some (v :: vs) | _, _ => none) = _
                    rw [kL_1]; rfl
                  · show (AV.agg _).lev0 = true
                    have e : lev0s (AskR.cells { a.good with perm := n } wn wd) = true := cells_lev (RH.lev0 on.rh) bd.lev0'
                    simp only [AV.lev0, e]
                  · rw [ho]
                    exact ⟨wn, wd, rfl, on, bd, ln, ld, ls⟩
                · have n7 : ¬ around w 13 = 7 := by simpa using hb
                  (repeat refine W_seq ?_); refine W_regionT [] ?_
                  simp only [go_sem]
                  (repeat refine W_seq ?_)
                  refine W_cond_if rfl (fun hb => ?_) (fun hb => ?_)
                  · have hk : around w 13 = 8 := by simpa using hb
                    (repeat refine W_seq ?_); refine W_regionT [] ?_
                    simp only [go_sem, ka8_2, ks8_2]
                    (repeat refine W_seq ?_); refine W_regionT [] ?_
                    simp only [go_sem, kL_2, kS_1 (c2 _)]
                    have ho : a.odd w n s = { a.good with off := n } := by unfold AskR.odd; simp [hk]
                    refine W_ret ⟨.inr rfl, [.agg (AskR.cells { a.good with off := n } wn wd)], ?_, ?_, G, rfl, uG, ?_⟩
                    · show (match loadA Try.prog 72 (.ptr ⟨S.length + 1, 1, 0⟩) _, resE Try.prog _ _ [] with | some v, some vs => some (v :: vs) | _, _ => none) = _
                      rw [kL_1]; rfl
                    · show (AV.agg _).lev0 = true
                      have e : lev0s (AskR.cells { a.good with off := n } wn wd) = true := cells_lev (RH.lev0 on.rh) bd.lev0'
                      simp only [AV.lev0, e]
                    · rw [ho]
                      exact ⟨wn, wd, rfl, on, bd, ln, ld, ls⟩
                  · have n8 : ¬ around w 13 = 8 := by simpa using hb
                    (repeat refine W_seq ?_); refine W_regionT [] ?_
                    simp only [go_sem]
                    (repeat refine W_seq ?_)
                    refine W_cond_if rfl (fun hb => ?_) (fun hb => ?_)
                    · have hk : around w 13 = 9 := by simpa using hb
                      (repeat refine W_seq ?_); refine W_regionT [] ?_
                      simp only [go_sem, ka9_2, ks9_2]
                      (repeat refine W_seq ?_); refine W_regionT [] ?_
                      simp only [go_sem, kL_2, kS_1 (c2 _)]
                      have ho : a.odd w n s = { a.good with count := n } := by unfold AskR.odd; simp [hk]
                      refine W_ret ⟨.inr rfl, [.agg (AskR.cells { a.good with count := n } wn wd)], ?_, ?_, G, rfl, uG, ?_⟩
                      · show (match loadA Try.prog 72 (.ptr ⟨S.length + 1, 1, 0⟩) _, resE Try.prog _ _ [] with | some v, some vs => some (v :: vs) | _, _ => none) = _
                        rw [kL_1]; rfl
                      · show (AV.agg _).lev0 = true
                        have e : lev0s (AskR.cells { a.good with count := n } wn wd) = true := cells_lev (RH.lev0 on.rh) bd.lev0'
                        simp only [AV.lev0, e]
                      · rw [ho]
                        exact ⟨wn, wd, rfl, on, bd, ln, ld, ls⟩
                    · have n9 : ¬ around w 13 = 9 := by simpa using hb
                      (repeat refine W_seq ?_); refine W_regionT [] ?_
                      simp only [go_sem]
                      (repeat refine W_seq ?_)
                      refine W_cond_if rfl (fun hb => ?_) (fun hb => ?_)
                      · have hk : around w 13 = 10 := by simpa using hb
                        (repeat refine W_seq ?_); refine W_regionT [] ?_
                        simp only [go_sem, ka12_2, ks12_2]
                        (repeat refine W_seq ?_); refine W_regionT [] ?_
                        simp only [go_sem, kL_2, kS_1 (c2 _)]
                        have ho : a.odd w n s = { a.good with size := n } := by unfold AskR.odd; simp [hk]
                        refine W_ret ⟨.inr rfl, [.agg (AskR.cells { a.good with size := n } wn wd)], ?_, ?_, G, rfl, uG, ?_⟩
                        · show (match loadA Try.prog 72 (.ptr ⟨S.length + 1, 1, 0⟩) _, resE Try.prog _ _ [] with | some v, some vs => some (v :: vs) | _, _ => none) = _
                          rw [kL_1]; rfl
                        · show (AV.agg _).lev0 = true
                          have e : lev0s (AskR.cells { a.good with size := n } wn wd) = true := cells_lev (RH.lev0 on.rh) bd.lev0'
                          simp only [AV.lev0, e]
                        · rw [ho]
                          exact ⟨wn, wd, rfl, on, bd, ln, ld, ls⟩
                      · have n10 : ¬ around w 13 = 10 := by simpa using hb
                        (repeat refine W_seq ?_); refine W_regionT [] ?_
                        simp only [go_sem]
                        (repeat refine W_seq ?_)
                        refine W_cond_if rfl (fun hb => ?_) (fun hb => ?_)
                        · have hk : around w 13 = 11 := by simpa using hb
                          (repeat refine W_seq ?_); refine W_regionT [] ?_
                          simp only [go_sem, ka10_2, ks10_2]
                          refine AT_call rfl rfl (short89 (n := 300)) fun v M1 hd1 h1 => ?_
                          obtain ⟨hv, hM⟩ := h1; subst hv; subst hM
                          simp only [go_sem, ka10_2, ks10_2]
                          (repeat refine W_seq ?_); refine W_regionT [] ?_
                          simp only [go_sem, kL_2, kS_1 (c2 _)]
                          have ho : a.odd w n s = { a.good with name := s.take 300 } := by unfold AskR.odd; simp [hk]
                          refine W_ret ⟨.inr rfl, [.agg (AskR.cells { a.good with name := s.take 300 } wn wd)], ?_, ?_, G, rfl, uG, ?_⟩
                          · show (match loadA Try.prog 72 (.ptr ⟨S.length + 1, 1, 0⟩) _, resE Try.prog _ _ [] with | some v, some vs => some (v :: vs) | _, _ => none) = _
                            rw [kL_1]; rfl
                          · show (AV.agg _).lev0 = true
                            have e : lev0s (AskR.cells { a.good with name := s.take 300 } wn wd) = true := cells_lev (RH.lev0 on.rh) bd.lev0'
                            simp only [AV.lev0, e]
                          · rw [ho]
                            exact ⟨wn, wd, rfl, on, bd, ln, ld, ls⟩
                        · have n11 : ¬ around w 13 = 11 := by simpa using hb
                          obtain ⟨v2, G2, hap, oh2, u2, l2⟩ := th_snoc (S := [Block.row ⟨72, 14, AskR.cells a vn vd, false, false⟩, Block.row ⟨72, 14, AskR.cells AskR.z .nilsl .nilsl, false, false⟩, Block.row ⟨72, 14, AskR.cells a.good wn wd, false, false⟩] :: S) (s := s.take 300) on (by have h8 := good_short (a := a); omega)
                          have c3 := fun b : AskR => cells_st2 b (OH1 oh2).1 bd.one.1
                          (repeat refine W_seq ?_); refine W_regionD [18, 19] [4, 5, 7] [0, 1, 2, 3, 4, 5, 6, 7] [0, 1, 0, 4, 12, 31, 63, 127] mixedM (by kernel_rfl) (by kernel_rfl) (by kernel_rfl) ?_
                          simp only [listed, go_sem]
                          refine AD_read (v := .ptr ⟨S.length + 1, 2, 11⟩) (fun M' => M'.get (S.length + 1) 2 = some (Block.row ⟨72, 14, AskR.cells a.good wn wd, false, false⟩)) rfl rfl (fun M' h => by show pureV (fieldAddrA Try.prog 72 (.ptr ⟨S.length + 1, 2, 0⟩) 11 M') M' = _; rw [ka11 h]; rfl) (gt2) ?_
                          simp only [go_sem]
                          refine AD_read (v := wn) (fun M' => M'.get (S.length + 1) 2 = some (Block.row ⟨72, 14, AskR.cells a.good wn wd, false, false⟩)) rfl rfl (fun M' h => by show pureV (loadA Try.prog 70 (.ptr ⟨S.length + 1, 2, 11⟩) M') M' = _; rw [kl11 h]; rfl) (gt2) ?_
                          simp only [go_sem]
                          refine AD_quiet (v := .str (s.take 300)) rfl rfl rfl (fun M => shortQ (n := 300)) ?_
                          simp only [go_sem]
                          refine AD_loud (v := .sl ⟨0, G.length, 0⟩ 1 (some 1)) (M' := ⟨G ++ [.row ⟨9, 1, [.str (s.take 300)], false, false⟩], [Block.row ⟨72, 14, AskR.cells a vn vd, false, false⟩, Block.row ⟨72, 14, AskR.cells AskR.z .nilsl .nilsl, false, false⟩, Block.row ⟨72, 14, AskR.cells a.good wn wd, false, false⟩] :: S⟩) rfl (by show buildSliceA Try.prog 70 true 1 [(0, .str (s.take 300))] _ = _; exact one70) ⟨fun _ => gt2, fun _ => gt2, trivial⟩ ?_
                          simp only [go_sem]
                          refine AD_loud (v := v2) (M' := ⟨G2, [Block.row ⟨72, 14, AskR.cells a vn vd, false, false⟩, Block.row ⟨72, 14, AskR.cells AskR.z .nilsl .nilsl, false, false⟩, Block.row ⟨72, 14, AskR.cells a.good wn wd, false, false⟩] :: S⟩) rfl (hap) ⟨fun ha => absurd (ha.symm.trans (show ancB _ _ _ _ = true by kernel_rfl)) (by decide), fun ha => absurd (ha.symm.trans (show ancB _ _ _ _ = true by kernel_rfl)) (by decide), trivial⟩ ?_
                          simp only [go_sem]
                          refine AD_read (v := .ptr ⟨S.length + 1, 2, 11⟩) (fun M' => M'.get (S.length + 1) 2 = some (Block.row ⟨72, 14, AskR.cells a.good wn wd, false, false⟩)) rfl rfl (fun M' h => by show pureV (fieldAddrA Try.prog 72 (.ptr ⟨S.length + 1, 2, 0⟩) 11 M') M' = _; rw [ka11 h]; rfl) (gt2) ?_
                          simp only [go_sem]
                          refine AD_loud (v := .undef) (M' := ⟨G2, [Block.row ⟨72, 14, AskR.cells a vn vd, false, false⟩, Block.row ⟨72, 14, AskR.cells AskR.z .nilsl .nilsl, false, false⟩, Block.row ⟨72, 14, AskR.cells { a.good with names := a.good.names ++ [s.take 300] } v2 wd, false, false⟩] :: S⟩) rfl (ks11_2 (OH1 oh2).1 (OH1 oh2).2) ⟨fun ha => absurd (ha.symm.trans (show ancB _ _ _ _ = true by kernel_rfl)) (by decide), fun ha => absurd (ha.symm.trans (show ancB _ _ _ _ = true by kernel_rfl)) (by decide), fun ha => absurd (ha.symm.trans (show ancB _ _ _ _ = true by kernel_rfl)) (by decide), trivial⟩ ?_
                          simp only [go_sem]
                          (repeat refine W_seq ?_); refine W_regionT [] ?_
                          simp only [go_sem, kL_2, kS_1 (c3 _)]
                          have ho : a.odd w n s = { a.good with names := a.good.names ++ [s.take 300] } := by unfold AskR.odd; simp [n0, n1, n2, n3, n4, n5, n6, n7, n8, n9, n10, n11]
                          refine W_ret ⟨.inr rfl, [.agg (AskR.cells { a.good with names := a.good.names ++ [s.take 300] } v2 wd)], ?_, ?_, G2, rfl, uG.then u2 (fun k hk h => by have := ln k h; omega), ?_⟩
                          · show (match loadA Try.prog 72 (.ptr ⟨S.length + 1, 1, 0⟩) _, resE Try.prog _ _ [] with | some v, some vs => some (v :: vs) | _, _ => none) = _
                            rw [kL_1]; rfl
                          · show (AV.agg _).lev0 = true
                            have e : lev0s (AskR.cells { a.good with names := a.good.names ++ [s.take 300] } v2 wd) = true := cells_lev (RH.lev0 oh2.rh) bd.lev0'
                            simp only [AV.lev0, e]
                          · rw [ho]
                            exact ⟨v2, wd, rfl, oh2, RH.upd bd u2 (fun k hk h => ls k h hk), fun k hk => (l2 k hk).elim (ln k) (fun h => Nat.le_trans uG.l h), ld, fun k hk hk2 => (l2 k hk).elim (fun h => ls k h hk2) (fun h => by have := RH.lt bd hk2; omega)⟩
theorem few50 {a : AskR} {vn vd : AV} (hn : TH H vn a.names) (hd : BH H vd a.data) : AC Try.prog 50 [.agg (a.cells vn vd)] ⟨H, S⟩ (fun v M' => ∃ H', M' = ⟨H', S⟩ ∧ UpdH no H H' ∧ AskO H' H.length v a.few) := by
  refine AC_of_WE Try.func50 rfl ?_
  simp only [Try.ntmps50, List.length_cons, List.length_nil, List.replicate, List.cons_append, List.nil_append, mem_enter]
  have c11 := fun b : AskR => cells_st2 b hn.one.1 hd.one.1
  (repeat refine W_seq ?_); refine W_regionT [] ?_
  simp only [go_sem, kboxL (c11 a), kallocL, List.nil_append, List.cons_append, List.length_nil, List.length_cons, Nat.zero_add, Nat.reduceAdd]
  (repeat refine W_seq ?_); refine W_regionT [] ?_
  simp only [go_sem, ka10_0, kl10_0, ks10_0]
  refine AT_call rfl rfl (short89 (n := 300)) fun v M1 hd1 h1 => ?_
  obtain ⟨hv, hM⟩ := h1; subst hv; subst hM
  simp only [go_sem, ka10_0, ks10_0]
  (repeat refine W_seq ?_); refine W_regionT [] ?_
  simp only [go_sem]
  (repeat refine W_seq ?_); refine W_regionT [] ?_
  simp only [go_sem]
  (repeat refine W_seq ?_)
  refine W_block (W_loop (L_inv (fun j env M' => ∃ (x5 x6 x7 x8 x9 x10 x11 x12 x13 x14 x15 x16 x17 x18 x19 x20 x21 x22 x23 x24 x25 x26 x27 x28 x29 x30 x31 x32 x33 x34 x35 : AV) (v' : AV) (i : Nat) (G : List Block), env = [.agg (a.cells vn vd), .ptr ⟨S.length + 1, 0, 0⟩, .ptr ⟨S.length + 1, 1, 0⟩, v', .int .i64 i, x5, x6, x7, x8, x9, x10, x11, x12, x13, x14, x15, x16, x17, x18, x19, x20, x21, x22, x23, x24, x25, x26, x27, x28, x29, x30, x31, x32, x33, x34, x35] ∧ i + j = min a.names.length 10 ∧ M' = ⟨G, [Block.row ⟨72, 14, AskR.cells { a with name := a.name.take 300 } vn vd, false, false⟩, Block.row ⟨72, 14, AskR.cells AskR.z .nilsl .nilsl, false, false⟩] :: S⟩ ∧ UpdH no H G ∧ OH G v' 9 1 (((a.names.take i).map (List.take 300)).map AV.str) ((a.names.take i).map (List.take 300)).length ∧ ∀ k, v'.loc k → H.length ≤ k) (fun j env M2 => ?_) (min a.names.length 10) ?_))
  case refine_2 => exact ⟨_, _, _, _, _, _, _, _, _, _, _, _, _, _, _, _, _, _, _, _, _, _, _, _, _, _, _, _, _, _, _, .nilsl, 0, H, rfl, by omega, rfl, UpdH.refl, OH.nil, fun k h => h.elim⟩
  refine exE fun x5 => exE fun x6 => exE fun x7 => exE fun x8 => exE fun x9 => exE fun x10 => exE fun x11 => exE fun x12 => exE fun x13 => exE fun x14 => exE fun x15 => exE fun x16 => exE fun x17 => exE fun x18 => exE fun x19 => exE fun x20 => exE fun x21 => exE fun x22 => exE fun x23 => exE fun x24 => exE fun x25 => exE fun x26 => exE fun x27 => exE fun x28 => exE fun x29 => exE fun x30 => exE fun x31 => exE fun x32 => exE fun x33 => exE fun x34 => exE fun x35 => ?_
  rintro ⟨v', i, G, rfl, hij, rfl, uG, hoh, hlo⟩
  (repeat refine W_seq ?_)
  refine W_mid (fun env M' => ∃ (y5 y6 y7 y8 y9 y10 y11 y12 y13 y14 y15 y16 y18 y19 y20 y21 y22 y23 y24 y25 y26 y27 y28 y29 y30 y31 y32 y33 y34 y35 : AV) (p : Bool), env = [.agg (a.cells vn vd), .ptr ⟨S.length + 1, 0, 0⟩, .ptr ⟨S.length + 1, 1, 0⟩, v', .int .i64 i, y5, y6, y7, y8, y9, y10, y11, y12, y13, y14, y15, y16, .bool p, y18, y19, y20, y21, y22, y23, y24, y25, y26, y27, y28, y29, y30, y31, y32, y33, y34, y35] ∧ p = decide (i < a.names.length ∧ i < 10) ∧ M' = ⟨G, [Block.row ⟨72, 14, AskR.cells { a with name := a.name.take 300 } vn vd, false, false⟩, Block.row ⟨72, 14, AskR.cells AskR.z .nilsl .nilsl, false, false⟩] :: S⟩) ?_ ?_
  · rcases (show i < a.names.length ∨ ¬ i < a.names.length by omega) with h | h
    · have hc : decide ((i : Int) < (a.names.length : Int)) = true := by simp; omega
      (repeat refine W_seq ?_); refine W_regionT [] ?_
      simp only [go_sem, hc, (hn.new uG).len, ka0_0, ka1_0, ka2_0, ka3_0, ka4_0, ka5_0, ka6_0, ka7_0, ka8_0, ka9_0, ka10_0, ka11_0, ka12_0, ka13_0, kl0_0, kl1_0, kl2_0, kl3_0, kl4_0, kl5_0, kl6_0, kl7_0, kl8_0, kl9_0, kl10_0, kl11_0, kl12_0, kl13_0, kL_0]
      exact ⟨_, _, _, _, _, _, _, _, _, _, _, _, _, _, _, _, _, _, _, _, _, _, _, _, _, _, _, _, _, _, _, rfl, by rw [Bool.eq_iff_iff]; simp; omega, rfl⟩
    · have hc : decide ((i : Int) < (a.names.length : Int)) = false := by simp; omega
      (repeat refine W_seq ?_); refine W_regionT [] ?_
      simp only [go_sem, hc, (hn.new uG).len, ka0_0, ka1_0, ka2_0, ka3_0, ka4_0, ka5_0, ka6_0, ka7_0, ka8_0, ka9_0, ka10_0, ka11_0, ka12_0, ka13_0, kl0_0, kl1_0, kl2_0, kl3_0, kl4_0, kl5_0, kl6_0, kl7_0, kl8_0, kl9_0, kl10_0, kl11_0, kl12_0, kl13_0, kL_0]
      exact ⟨_, _, _, _, _, _, _, _, _, _, _, _, _, _, _, _, _, _, _, _, _, _, _, _, _, _, _, _, _, _, _, rfl, by rw [Bool.eq_iff_iff]; simp; omega, rfl⟩
  refine fun env M' => ?_
  refine exE fun y5 => exE fun y6 => exE fun y7 => exE fun y8 => exE fun y9 => exE fun y10 => exE fun y11 => exE fun y12 => exE fun y13 => exE fun y14 => exE fun y15 => exE fun y16 => exE fun y18 => exE fun y19 => exE fun y20 => exE fun y21 => exE fun y22 => exE fun y23 => exE fun y24 => exE fun y25 => exE fun y26 => exE fun y27 => exE fun y28 => exE fun y29 => exE fun y30 => exE fun y31 => exE fun y32 => exE fun y33 => exE fun y34 => exE fun y35 => ?_
  rintro ⟨p, rfl, rfl, rfl⟩
  (repeat refine W_seq ?_)
  refine W_cond_if rfl (fun hb => ?_) (fun hb => ?_)
  · have hi : i < a.names.length ∧ i < 10 := by simpa using hb
    refine W_skip ?_
    simp only [go_sem]
    (repeat refine W_seq ?_)
    refine W_block ?_
    obtain ⟨v2, G2, hap, oh2, u2, l2⟩ := th_snoc (S := [Block.row ⟨72, 14, AskR.cells { a with name := a.name.take 300 } vn vd, false, false⟩, Block.row ⟨72, 14, AskR.cells AskR.z .nilsl .nilsl, false, false⟩] :: S) (s := a.names[i].take 300) hoh (by simp; omega)
    have a70 := at70 (S := [Block.row ⟨72, 14, AskR.cells { a with name := a.name.take 300 } vn vd, false, false⟩, Block.row ⟨72, 14, AskR.cells AskR.z .nilsl .nilsl, false, false⟩] :: S) (hn.new uG) hi.1
    (repeat refine W_seq ?_); refine W_regionT [27, 28] ?_
    simp only [go_sem, ka11_0, kl11_0, a70.1, a70.2]
    refine AT_call rfl rfl (short89 (n := 300)) fun v M1 hd1 h1 => ?_
    obtain ⟨hv, hM⟩ := h1; subst hv; subst hM
    simp only [go_sem, one70, hap]
    (repeat refine W_seq ?_); refine W_regionT [] ?_
    simp only [go_sem, show (i : Int) + 1 = ((i + 1 : Nat) : Int) from rfl, wrap_i64 (n := ((i + 1 : Nat) : Int)) (by omega) (by omega)]
    refine ⟨j - 1, by omega, _, _, _, _, _, _, _, _, _, _, _, _, _, _, _, _, _, _, _, _, _, _, _, _, _, _, _, _, _, _, _, v2, i + 1, G2, rfl, by omega, rfl, uG.then u2 (fun k hk h => by have := hlo k h; omega), by rw [snocT hi.1]; exact oh2, fun k hk => (l2 k hk).elim (hlo k) (fun h => Nat.le_trans uG.l h)⟩
  · have hi : i = min a.names.length 10 := by simp at hb; omega
    subst hi
    (repeat refine W_seq ?_)
    refine W_exit ?_
    simp only [go_sem]
    (repeat refine W_seq ?_); refine W_regionT [] ?_
    simp only [go_sem, ka11_0, take_min, ks11_0 (OH1 hoh).1 (OH1 hoh).2]
    rw [take_min] at hoh
    (repeat refine W_seq ?_); refine W_regionT [] ?_
    simp only [go_sem, ka13_0, kl13_0]
    refine AT_call rfl rfl (fewB (n := 40) (hd.new uG) (by decide)) fun v M1 hd1 h1 => ?_
    obtain ⟨G3, rfl, u3, b3, l3⟩ := h1
    have c3 := fun b : AskR => cells_st2 b (OH1 hoh).1 b3.one.1
    simp only [go_sem, ka13_0, ks13_0 b3.one.1 b3.one.2]
    (repeat refine W_seq ?_); refine W_regionT [] ?_
    simp only [go_sem, kL_0, kS_1 (c3 _)]
    refine W_ret ⟨.inr rfl, [.agg (AskR.cells a.few v' v)], ?_, ?_, G3, rfl, uG.then u3 (fun _ _ h => h), v', v, rfl, hoh.new u3, b3, hlo, fun k hk => Nat.le_trans uG.l (l3 k hk), fun k hk hk2 => by have := RH.lt hoh.rh hk; have := l3 k hk2; omega⟩
    · show (match loadA Try.prog 72 (.ptr ⟨S.length + 1, 1, 0⟩) _, resE Try.prog _ _ [] with | some v, some vs => some (v :: vs) | _, _ => none) = _
      rw [kL_1]; rfl
    · show (AV.agg _).lev0 = true
      have e : lev0s (AskR.cells a.few v' v) = true := cells_lev (RH.lev0 hoh.rh) b3.lev0'
      simp only [AV.lev0, e]
end
end Go.Proofs.Ytlpcbfndjffpfaa
