/- The walk of ask's get: a request's bytes are read into it. -/
import Derived.Test.YtlpcbfndjffpfaaAskMays
import Derived.Test.YtlpcbfndjffpfaaReads2
set_option maxRecDepth 100000
set_option maxHeartbeats 4000000
set_option linter.unusedSimpArgs false
set_option linter.unusedVariables false
namespace Go.Proofs.Ytlpcbfndjffpfaa
open Go.Abs
/-! what is read of what was laid -/
theorem r8 {n : Int} {r : List UInt8} (h : 0 ≤ n ∧ n ≤ 255) : ((rNum (le (u8 n) 1 ++ r, 0) 1).1 : Int) = n ∧ (rNum (le (u8 n) 1 ++ r, 0) 1).2 = (r, 0) := by
  rw [rNum_le]; refine ⟨?_, rfl⟩; show (((u8 n) % 256 ^ 1 : Nat) : Int) = n; unfold u8; omega
theorem r16 {n : Int} {r : List UInt8} (h : 0 ≤ n ∧ n ≤ 65535) : ((rNum (le (u16 n) 2 ++ r, 0) 2).1 : Int) = n ∧ (rNum (le (u16 n) 2 ++ r, 0) 2).2 = (r, 0) := by
  rw [rNum_le]; refine ⟨?_, rfl⟩; show (((u16 n) % 256 ^ 2 : Nat) : Int) = n; unfold u16; omega
theorem r32 {n : Int} {r : List UInt8} (h : 0 ≤ n ∧ n ≤ 4294967295) : ((rNum (le (u32 n) 4 ++ r, 0) 4).1 : Int) = n ∧ (rNum (le (u32 n) 4 ++ r, 0) 4).2 = (r, 0) := by
  rw [rNum_le]; refine ⟨?_, rfl⟩; show (((u32 n) % 256 ^ 4 : Nat) : Int) = n; unfold u32; omega
theorem r32s {n : Int} {r : List UInt8} (h : -1 ≤ n ∧ n ≤ 4294967294) : ((rNum (le (u32 n) 4 ++ r, 0) 4).1 : Int) = (if n = -1 then 4294967295 else n) ∧ (rNum (le (u32 n) 4 ++ r, 0) 4).2 = (r, 0) := by
  rw [rNum_le]; refine ⟨?_, rfl⟩; show (((u32 n) % 256 ^ 4 : Nat) : Int) = _; unfold u32; split <;> omega
theorem r64 {n : Int} {r : List UInt8} (h : 0 ≤ n ∧ n ≤ 4611686018427387904) : ((rNum (le (u64 n) 8 ++ r, 0) 8).1 : Int) = n ∧ (rNum (le (u64 n) 8 ++ r, 0) 8).2 = (r, 0) := by
  rw [rNum_le]; refine ⟨?_, rfl⟩; show (((u64 n) % 256 ^ 8 : Nat) : Int) = n; unfold u64; omega
theorem rT {t r : List UInt8} (h : t.length ≤ 255) : rText (le t.length 2 ++ (t ++ r), 0) = (t, (r, 0)) := by rw [← List.append_assoc]; exact rText_app (by omega)
theorem rD {t r : List UInt8} (h : t.length ≤ 1024) : rData (le t.length 4 ++ (t ++ r), 0) 1024 = (t, (r, 0)) := by rw [← List.append_assoc]; exact rData_app (m := 1024) h (by decide)
def BOXR (ix : Nat) : Block := .row ⟨41, 1, [.ptr ⟨0, ix, 0⟩], false, false⟩
section
variable {H H' : List Block} {S : List (List Block)} {F : List Block} {M' : Mem} {q : Nat → Prop} {ix it : Nat} {s : RS} {b b0 : Block}
theorem get_second {E : List Block} {k : Nat} : (⟨H, E :: F :: S⟩ : Mem).get (S.length + 1) k = F[k]? := by simp [Mem.get]
theorem ldB : loadA Try.prog 41 (.ptr ⟨S.length + 1, 0, 0⟩) ⟨H, (BOXR ix :: F) :: S⟩ = some (.ptr ⟨0, ix, 0⟩) := by
  rw [load_one (a := ⟨S.length + 1, 0, 0⟩) (r := ⟨41, 1, [.ptr ⟨0, ix, 0⟩], false, false⟩) ti41 rfl (by unfold getRow; rw [mem_get_top]; rfl)]; rfl
theorem ldBG (h : M'.get (S.length + 1) 0 = some (BOXR ix)) : loadA Try.prog 41 (.ptr ⟨S.length + 1, 0, 0⟩) M' = some (.ptr ⟨0, ix, 0⟩) := by
  rw [load_one (a := ⟨S.length + 1, 0, 0⟩) (r := ⟨41, 1, [.ptr ⟨0, ix, 0⟩], false, false⟩) ti41 rfl (by unfold getRow; simp only [h, BOXR])]; rfl
theorem ldB2 {E : List Block} : loadA Try.prog 41 (.ptr ⟨S.length + 1, 0, 0⟩) ⟨H, E :: (BOXR ix :: F) :: S⟩ = some (.ptr ⟨0, ix, 0⟩) := by
  rw [load_one (a := ⟨S.length + 1, 0, 0⟩) (r := ⟨41, 1, [.ptr ⟨0, ix, 0⟩], false, false⟩) ti41 rfl (by unfold getRow; rw [get_second]; rfl)]; rfl
theorem boxB : boxA Try.prog 41 false (.ptr ⟨0, ix, 0⟩) ⟨H, F :: S⟩ = some (.ptr ⟨S.length + 1, F.length, 0⟩, ⟨H, (F ++ [BOXR ix]) :: S⟩) := by unfold boxA; simp only [ti41]; rfl
/-- A row is written beside the reader. -/
theorem RdAt.put (r : RdAt q H ix s) (hr : H[it]? = some b0) (hit : it ≠ ix) (hqt : ¬ q it) : RdAt q (H.set it b) ix s ∧ (H.set it b)[it]? = some b ∧ UpdH (· = it) H (H.set it b) :=
  ⟨r.upd UpdH.set (fun h => hit h.symm) (fun k hk h => hqt (h ▸ hk)), set_row (List.getElem?_eq_some_iff.1 hr).1, UpdH.set⟩
/-- A row stays as it was where the reader alone is changed. -/
theorem keepR (u : UpdH (· = ix) H H') (hr : H[it]? = some b) (hit : it ≠ ix) : H'[it]? = some b := u.get hr hit
theorem get147 (h : RdAt q H ix s) (hq : ¬ q ix) : AC Try.prog 147 [.ptr ⟨S.length + 1, 0, 0⟩] ⟨H, (BOXR ix :: F) :: S⟩ (fun v M' => v = .int .i64 ((rNum s 4).1 : Nat) ∧ ∃ H', M' = ⟨H', (BOXR ix :: F) :: S⟩ ∧ UpdH (· = ix) H H' ∧ RdAt q H' ix (rNum s 4).2) := by
  refine AC_of_WE Try.func147 rfl ?_
  simp only [Try.ntmps147, List.length_cons, List.length_nil, List.replicate, List.cons_append, List.nil_append, mem_enter]
  have hlt := rNum_lt (s := s) (n := 4)
  have hw : IntKind.wrap .i64 ((rNum s 4).1 : Nat) = ((rNum s 4).1 : Nat) := wrap_i64 (by omega) (by omega)
  (repeat refine W_seq ?_); refine W_regionT [] ?_
  simp only [go_sem]
  (repeat refine W_seq ?_); refine W_regionT [] ?_
  simp only [go_sem, ldB2, ti29, ti3, hw]
  refine AT_call rfl rfl (num38 h hq) fun v M1 hd1 h1 => ?_
  obtain ⟨hv, G1, rfl, u1, r1⟩ := h1; subst hv
  simp only [go_sem, ti29, ti3, hw]
  exact W_ret ⟨.inr rfl, _, rfl, rfl, rfl, _, rfl, u1, r1⟩
theorem texts_app {l : List (List UInt8)} : textsOf l = l.flatMap fun s => le s.length 2 ++ s := rfl
theorem texts_drop {l : List (List UInt8)} {i : Nat} (h : i < l.length) : textsOf (l.drop i) = le l[i].length 2 ++ (l[i] ++ textsOf (l.drop (i + 1))) := by
  unfold textsOf
  rw [List.drop_eq_getElem_cons h, List.flatMap_cons, List.append_assoc]
theorem names148 {l : List (List UInt8)} (h : RdAt q H ix (le (u16 l.length) 2 ++ textsOf l, 0)) (hq : ¬ q ix) (hl : l.length ≤ 8) (hs : ∀ s ∈ l, s.length ≤ 255) (hqb : ∀ k, q k → k < H.length) : AC Try.prog 148 [.ptr ⟨0, ix, 0⟩] ⟨H, S⟩ (fun v M' => ∃ H' vn, v = .tup [vn, .bool true] ∧ M' = ⟨H', S⟩ ∧ UpdH (· = ix) H H' ∧ RdAt q H' ix ([], 0) ∧ OH H' vn 9 1 (l.map AV.str) l.length ∧ ∀ k, vn.loc k → H.length ≤ k) := by
  refine AC_of_WE Try.func148 rfl ?_
  simp only [Try.ntmps148, List.length_cons, List.length_nil, List.replicate, List.cons_append, List.nil_append, mem_enter]
  have hwl : IntKind.wrap .i64 (l.length : Int) = (l.length : Int) := wrap_i64 (by omega) (by omega)
  have hle : ¬ (8 : Int) < (l.length : Int) := by omega
  have h0x := h
  (repeat refine W_seq ?_); refine W_regionT [] ?_
  simp only [go_sem]
  (repeat refine W_seq ?_); refine W_regionT [] ?_
  simp only [go_sem, ti24, ti3, hwl]
  refine AT_call rfl rfl (num37 h hq) fun v M1 hd1 h1 => ?_
  obtain ⟨hv, G1, rfl, u1, r1⟩ := h1
  rw [(r16 (n := (l.length : Int)) ⟨by omega, by omega⟩).1] at hv
  rw [(r16 (n := (l.length : Int)) ⟨by omega, by omega⟩).2] at r1
  subst hv
  simp only [go_sem, ti24, ti3, hwl]
  (repeat refine W_seq ?_); refine W_regionT [] ?_
  simp only [go_sem]
  (repeat refine W_seq ?_)
  refine W_cond_if rfl (fun hb => ?_) (fun hb => ?_)
  · exact absurd (of_decide_eq_true hb) hle -- END
  · refine W_skip ?_
    simp only [go_sem]
    (repeat refine W_seq ?_); refine W_regionT [] ?_
    simp only [go_sem]
    (repeat refine W_seq ?_); refine W_regionT [] ?_
    simp only [go_sem]
    (repeat refine W_seq ?_)
    refine W_block (W_loop (L_inv (fun j env M' => ∃ (x1 x2 x3 x4 x6 x7 x8 x9 x10 x13 x14 x15 x16 x17 x18 x19 x20 : AV) (vb : AV) (i : Nat) (G : List Block), env = [.ptr ⟨0, ix, 0⟩, x1, x2, x3, x4, vb, x6, x7, x8, x9, x10, .int .i64 l.length, .int .i64 i, x13, x14, x15, x16, x17, x18, x19, x20] ∧ i + j = l.length ∧ M' = ⟨G, [] :: S⟩ ∧ UpdH (· = ix) H G ∧ RdAt q G ix (textsOf (l.drop i), 0) ∧ OH G vb 9 1 ((l.take i).map AV.str) (l.take i).length ∧ ∀ k, vb.loc k → H.length ≤ k) (fun j env M2 => ?_) (l.length) ?_))
    case refine_2 => exact ⟨_, _, _, _, _, _, _, _, _, _, _, _, _, _, _, _, _, .nilsl, 0, _, rfl, by omega, rfl, u1, r1, OH.nil, fun k h => h.elim⟩
    refine exE fun x1 => exE fun x2 => exE fun x3 => exE fun x4 => exE fun x6 => exE fun x7 => exE fun x8 => exE fun x9 => exE fun x10 => exE fun x13 => exE fun x14 => exE fun x15 => exE fun x16 => exE fun x17 => exE fun x18 => exE fun x19 => exE fun x20 => ?_
    rintro ⟨vb, i, G, rfl, hij, rfl, uG, rG, hoh, hlo⟩
    (repeat refine W_seq ?_); refine W_regionT [] ?_
    simp only [go_sem]
    (repeat refine W_seq ?_)
    refine W_cond_if rfl (fun hb => ?_) (fun hb => ?_)
    · have hi : i < l.length := by simpa using hb
      refine W_skip ?_
      simp only [go_sem]
      (repeat refine W_seq ?_)
      refine W_block ?_
      (repeat refine W_seq ?_); refine W_regionT [17, 18] ?_
      simp only [go_sem]
      refine AT_call rfl rfl (readText rG hq) fun v M1 hd1 h1 => ?_
      obtain ⟨hv, G3, rfl, u3, r3⟩ := h1
      rw [texts_drop hi, rT (hs _ (List.getElem_mem hi))] at hv r3
      subst hv
      have ho3 := hoh.upd u3 (fun k hk h => by have := hlo k hk; have := RdAt.lt h0x; omega)
      obtain ⟨v4, G4, hap, oh4, u4, l4⟩ := th_snoc (S := [] :: S) (s := l[i]) ho3 (by rw [List.length_take]; omega)
      have hst : l.take i ++ [l[i]] = l.take (i + 1) := by rw [List.take_add_one, List.getElem?_eq_getElem hi]; rfl
      rw [hst] at oh4
      have r4 := r3.upd u4 (fun h => by have := hlo _ h; have := RdAt.lt h0x; omega) (fun k hk h => by have := hqb k hk; have := hlo k h; omega)
      simp only [go_sem, one70, hap]
      (repeat refine W_seq ?_); refine W_regionT [] ?_
      simp only [go_sem, show (i : Int) + 1 = ((i + 1 : Nat) : Int) from rfl, wrap_i64 (n := ((i + 1 : Nat) : Int)) (by omega) (by omega)]
      refine ⟨j - 1, by omega, _, _, _, _, _, _, _, _, _, _, _, _, _, _, _, _, _, v4, i + 1, G4, rfl, by omega, rfl, (uG.trans u3 (fun k _ h => h) (fun k _ h => h)).trans u4 (fun k _ h => h) (fun k hk h => by have := hlo k h; omega), r4, oh4, fun k hk => (l4 k hk).elim (hlo k) (fun h => by have := uG.l; have := u3.l; omega)⟩
    · have hi : i = l.length := by simp at hb; omega
      subst hi
      (repeat refine W_seq ?_)
      refine W_exit ?_
      simp only [go_sem]
      (repeat refine W_seq ?_); refine W_regionT [] ?_
      simp only [go_sem]
      refine W_ret ⟨.inr rfl, [vb, .bool true], rfl, ?_, ?_⟩
      · show lev0s [vb, .bool true] = true
        simp only [lev0s, AV.lev0, RH.lev0 hoh.rh, Bool.and_true]
      rw [List.take_length] at hoh
      rw [List.drop_length] at rG
      exact ⟨_, _, rfl, rfl, uG, rG, hoh, hlo⟩
theorem idSS {x : AV} : AV.loc x = AV.loc x := rfl
theorem get122_100 {a : AskR} (r0 : RdAt q H ix (le (u32 a.msize) 4 ++ (le a.name.length 2 ++ (a.name ++ [])), 0)) (hq : ¬ q ix) (hr0 : H[it]? = some (Block.row ⟨72, 14, AskR.cells ⟨100, a.tag, 0, 0, 0, 0, 0, 0, 0, 0, [], [], 0, []⟩ .nilsl .nilsl, false, false⟩)) (hit : it ≠ ix) (hqt : ¬ q it) (hqb : ∀ k, q k → k < H.length) (fit : a.Fit) (h_msize : 0 ≤ a.msize ∧ a.msize ≤ 4294967295) : AC Try.prog 122 [.ptr ⟨0, ix, 0⟩, .ptr ⟨0, it, 0⟩] ⟨H, S⟩ (fun v M' => v = .bool true ∧ ∃ H' vn vd, M' = ⟨H', S⟩ ∧ UpdH (fun k => k = ix ∨ k = it) H H' ∧ RdAt q H' ix ([], 0) ∧ H'[it]? = some (Block.row ⟨72, 14, AskR.cells ⟨100, a.tag, 0, 0, 0, a.msize, 0, 0, 0, 0, a.name, [], 0, []⟩ vn vd, false, false⟩) ∧ TH H' vn [] ∧ BH H' vd []) := by
  refine AC_of_WE Try.func122 rfl ?_
  simp only [Try.ntmps122, List.length_cons, List.length_nil, List.replicate, List.cons_append, List.nil_append, mem_enter]
  have hil := (List.getElem?_eq_some_iff.1 hr0).1
  have w_msize : IntKind.wrap .i64 a.msize = a.msize := wrap_i64 (by omega) (by omega)
  (repeat refine W_seq ?_); refine W_regionT [] ?_
  simp only [go_sem, boxB, List.nil_append, List.cons_append, List.length_nil, List.length_cons, Nat.zero_add, Nat.reduceAdd]
  (repeat refine W_seq ?_); refine W_regionT [] ?_
  simp only [go_sem]
  (repeat refine W_seq ?_); refine W_regionT [] ?_
  simp only [go_sem]
  (repeat refine W_seq ?_); refine W_regionT [] ?_
  simp only [go_sem, ka0 (get0 hr0), kl0 (get0 hr0)]
  (repeat refine W_seq ?_)
  refine W_block ?_
  (repeat refine W_seq ?_); refine W_regionT [] ?_
  simp only [go_sem]
  (repeat refine W_seq ?_)
  refine W_cond (b := true) rfl ?_
  simp only [if_true]
  (repeat refine W_seq ?_); refine W_regionD [] [3, 5, 8, 11] [0, 1, 2, 4, 3, 5, 6, 7, 8, 9, 10, 11] [0, 0, 0, 4, 0, 28, 61, 125, 253, 511, 1023, 2047] mixedM (by kernel_rfl) (by kernel_rfl) (by kernel_rfl) ?_
  simp only [listed, go_sem, w_msize]
  refine AD_read (v := .ptr ⟨0, ix, 0⟩) (fun M' => M'.get (S.length + 1) 0 = some (BOXR ix)) rfl rfl (fun M' h => by show pureV (loadA Try.prog 41 (.ptr ⟨S.length + 1, 0, 0⟩) M') M' = _; rw [ldBG h]; rfl) (gt0) ?_
  simp only [go_sem, w_msize]
  refine AD_call rfl rfl rfl (get147 r0 hq) fun v M1 hd1 h1 => ?_
  obtain ⟨hv, G1, rfl, u1, r1⟩ := h1
  rw [(r32 h_msize).1] at hv
  rw [(r32 h_msize).2] at r1
  subst hv
  have hr1 := keepR u1 hr0 hit
  refine ⟨⟨fun _ => gt0, trivial⟩, ?_⟩
  simp only [go_sem, ti3, ti5, ti23, ti24, ti29, w_msize]
  refine AD_call rfl rfl rfl (readText r1 hq) fun v M1 hd1 h1 => ?_
  obtain ⟨hv, G2, rfl, u2, r2⟩ := h1
  rw [rT fit.n] at hv r2
  subst hv
  have hr2 := keepR u2 hr1 hit
  refine ⟨⟨fun _ => gt0, trivial⟩, ?_⟩
  simp only [go_sem, ti3, ti5, ti23, ti24, ti29, w_msize]
  refine AD_read (v := .ptr ⟨0, it, 5⟩) (fun M' => M'.get 0 it = some (Block.row ⟨72, 14, AskR.cells ⟨100, a.tag, 0, 0, 0, 0, 0, 0, 0, 0, [], [], 0, []⟩ .nilsl .nilsl, false, false⟩)) rfl rfl (fun M' h => by show pureV (fieldAddrA Try.prog 72 (.ptr ⟨0, it, 0⟩) 5 M') M' = _; rw [ka5 h]; rfl) (get0 hr2) ?_
  simp only [go_sem, w_msize]
  refine AD_loud (v := .undef) (M' := ⟨(G2).set it (Block.row ⟨72, 14, AskR.cells ⟨100, a.tag, 0, 0, 0, a.msize, 0, 0, 0, 0, [], [], 0, []⟩ .nilsl .nilsl, false, false⟩), [BOXR ix] :: S⟩) rfl ((ks5 (a := ⟨100, a.tag, 0, 0, 0, 0, 0, 0, 0, 0, [], [], 0, []⟩) (get0 hr2)).trans (by rw [mem_set0])) ⟨fun ha => absurd (ha.symm.trans (show ancB _ _ _ _ = true by kernel_rfl)) (by decide), fun ha => absurd (ha.symm.trans (show ancB _ _ _ _ = true by kernel_rfl)) (by decide), trivial⟩ ?_
  obtain ⟨rs5_8, hs5_8, us5_8⟩ := r2.put (b := Block.row ⟨72, 14, AskR.cells ⟨100, a.tag, 0, 0, 0, a.msize, 0, 0, 0, 0, [], [], 0, []⟩ .nilsl .nilsl, false, false⟩) hr2 hit hqt
  simp only [go_sem, w_msize]
  refine AD_read (v := .ptr ⟨0, it, 10⟩) (fun M' => M'.get 0 it = some (Block.row ⟨72, 14, AskR.cells ⟨100, a.tag, 0, 0, 0, a.msize, 0, 0, 0, 0, [], [], 0, []⟩ .nilsl .nilsl, false, false⟩)) rfl rfl (fun M' h => by show pureV (fieldAddrA Try.prog 72 (.ptr ⟨0, it, 0⟩) 10 M') M' = _; rw [ka10 h]; rfl) (get0 hs5_8) ?_
  simp only [go_sem, w_msize]
  refine AD_loud (v := .undef) (M' := ⟨((G2).set it (Block.row ⟨72, 14, AskR.cells ⟨100, a.tag, 0, 0, 0, a.msize, 0, 0, 0, 0, [], [], 0, []⟩ .nilsl .nilsl, false, false⟩)).set it (Block.row ⟨72, 14, AskR.cells ⟨100, a.tag, 0, 0, 0, a.msize, 0, 0, 0, 0, a.name, [], 0, []⟩ .nilsl .nilsl, false, false⟩), [BOXR ix] :: S⟩) rfl ((ks10 (a := ⟨100, a.tag, 0, 0, 0, a.msize, 0, 0, 0, 0, [], [], 0, []⟩) (get0 hs5_8)).trans (by rw [mem_set0])) ⟨fun ha => absurd (ha.symm.trans (show ancB _ _ _ _ = true by kernel_rfl)) (by decide), fun ha => absurd (ha.symm.trans (show ancB _ _ _ _ = true by kernel_rfl)) (by decide), fun ha => absurd (ha.symm.trans (show ancB _ _ _ _ = true by kernel_rfl)) (by decide), trivial⟩ ?_
  obtain ⟨rs5_11, hs5_11, us5_11⟩ := rs5_8.put (b := Block.row ⟨72, 14, AskR.cells ⟨100, a.tag, 0, 0, 0, a.msize, 0, 0, 0, 0, a.name, [], 0, []⟩ .nilsl .nilsl, false, false⟩) hs5_8 hit hqt
  simp only [go_sem, w_msize]
  (repeat refine W_seq ?_); refine W_regionT [] ?_
  simp only [go_sem, ka0 (get0 hs5_11), kl0 (get0 hs5_11), ka12 (get0 hs5_11), kl12 (get0 hs5_11)]
  (repeat refine W_seq ?_)
  refine W_cond (b := false) rfl ?_
  simp only [Bool.false_eq_true, if_false]
  refine W_skip ?_
  simp only [go_sem]
  (repeat refine W_seq ?_); refine W_regionT [] ?_
  simp only [go_sem]
  exact W_ret ⟨.inr rfl, _, rfl, rfl, rfl, _, _, _, rfl, ((((UpdH.refl).trans (u1.mono (fun k _ h => .inl h)) (fun k _ h => h) (fun k _ h => h)).trans (u2.mono (fun k _ h => .inl h)) (fun k _ h => h) (fun k _ h => h)).trans (us5_8.mono (fun k _ h => .inr h)) (fun k _ h => h) (fun k _ h => h)).trans (us5_11.mono (fun k _ h => .inr h)) (fun k _ h => h) (fun k _ h => h), rs5_11, hs5_11, TH.nil, BH.nil⟩
theorem get122_104 {a : AskR} (r0 : RdAt q H ix (le a.name.length 2 ++ (a.name ++ []), 0)) (hq : ¬ q ix) (hr0 : H[it]? = some (Block.row ⟨72, 14, AskR.cells ⟨104, a.tag, a.fid, 0, 0, 0, 0, 0, 0, 0, [], [], 0, []⟩ .nilsl .nilsl, false, false⟩)) (hit : it ≠ ix) (hqt : ¬ q it) (hqb : ∀ k, q k → k < H.length) (fit : a.Fit)  : AC Try.prog 122 [.ptr ⟨0, ix, 0⟩, .ptr ⟨0, it, 0⟩] ⟨H, S⟩ (fun v M' => v = .bool true ∧ ∃ H' vn vd, M' = ⟨H', S⟩ ∧ UpdH (fun k => k = ix ∨ k = it) H H' ∧ RdAt q H' ix ([], 0) ∧ H'[it]? = some (Block.row ⟨72, 14, AskR.cells ⟨104, a.tag, a.fid, 0, 0, 0, 0, 0, 0, 0, a.name, [], 0, []⟩ vn vd, false, false⟩) ∧ TH H' vn [] ∧ BH H' vd []) := by
  refine AC_of_WE Try.func122 rfl ?_
  simp only [Try.ntmps122, List.length_cons, List.length_nil, List.replicate, List.cons_append, List.nil_append, mem_enter]
  have hil := (List.getElem?_eq_some_iff.1 hr0).1
  (repeat refine W_seq ?_); refine W_regionT [] ?_
  simp only [go_sem, boxB, List.nil_append, List.cons_append, List.length_nil, List.length_cons, Nat.zero_add, Nat.reduceAdd]
  (repeat refine W_seq ?_); refine W_regionT [] ?_
  simp only [go_sem]
  (repeat refine W_seq ?_); refine W_regionT [] ?_
  simp only [go_sem]
  (repeat refine W_seq ?_); refine W_regionT [] ?_
  simp only [go_sem, ka0 (get0 hr0), kl0 (get0 hr0)]
  (repeat refine W_seq ?_)
  refine W_block ?_
  (repeat refine W_seq ?_); refine W_regionT [] ?_
  simp only [go_sem]
  (repeat refine W_seq ?_)
  refine W_cond (b := false) rfl ?_
  simp only [Bool.false_eq_true, if_false]
  (repeat refine W_seq ?_); refine W_regionT [] ?_
  simp only [go_sem]
  (repeat refine W_seq ?_)
  refine W_cond (b := true) rfl ?_
  simp only [if_true]
  (repeat refine W_seq ?_); refine W_regionT [] ?_
  simp only [go_sem, ldB]
  refine AT_call rfl rfl (readText r0 hq) fun v M1 hd1 h1 => ?_
  obtain ⟨hv, G1, rfl, u1, r1⟩ := h1
  rw [rT fit.n] at hv r1
  subst hv
  have hr1 := keepR u1 hr0 hit
  obtain ⟨rs7_5, hs7_5, us7_5⟩ := r1.put (b := Block.row ⟨72, 14, AskR.cells ⟨104, a.tag, a.fid, 0, 0, 0, 0, 0, 0, 0, a.name, [], 0, []⟩ .nilsl .nilsl, false, false⟩) hr1 hit hqt
  simp only [go_sem, ldB, ti3, ti5, ti23, ti24, ti29, ka10 (get0 hr1), ks10 (a := ⟨104, a.tag, a.fid, 0, 0, 0, 0, 0, 0, 0, [], [], 0, []⟩) (get0 hr1)]
  (repeat refine W_seq ?_); refine W_regionT [] ?_
  simp only [go_sem, ka0 (get0 hs7_5), kl0 (get0 hs7_5), ka12 (get0 hs7_5), kl12 (get0 hs7_5)]
  (repeat refine W_seq ?_)
  refine W_cond (b := false) rfl ?_
  simp only [Bool.false_eq_true, if_false]
  refine W_skip ?_
  simp only [go_sem]
  (repeat refine W_seq ?_); refine W_regionT [] ?_
  simp only [go_sem]
  exact W_ret ⟨.inr rfl, _, rfl, rfl, rfl, _, _, _, rfl, ((UpdH.refl).trans (u1.mono (fun k _ h => .inl h)) (fun k _ h => h) (fun k _ h => h)).trans (us7_5.mono (fun k _ h => .inr h)) (fun k _ h => h) (fun k _ h => h), rs7_5, hs7_5, TH.nil, BH.nil⟩
theorem get122_108 {a : AskR} (r0 : RdAt q H ix (le (u16 a.oldtag) 2 ++ ([]), 0)) (hq : ¬ q ix) (hr0 : H[it]? = some (Block.row ⟨72, 14, AskR.cells ⟨108, a.tag, 0, 0, 0, 0, 0, 0, 0, 0, [], [], 0, []⟩ .nilsl .nilsl, false, false⟩)) (hit : it ≠ ix) (hqt : ¬ q it) (hqb : ∀ k, q k → k < H.length) (fit : a.Fit) (h_oldtag : 0 ≤ a.oldtag ∧ a.oldtag ≤ 65535) : AC Try.prog 122 [.ptr ⟨0, ix, 0⟩, .ptr ⟨0, it, 0⟩] ⟨H, S⟩ (fun v M' => v = .bool true ∧ ∃ H' vn vd, M' = ⟨H', S⟩ ∧ UpdH (fun k => k = ix ∨ k = it) H H' ∧ RdAt q H' ix ([], 0) ∧ H'[it]? = some (Block.row ⟨72, 14, AskR.cells ⟨108, a.tag, 0, 0, a.oldtag, 0, 0, 0, 0, 0, [], [], 0, []⟩ vn vd, false, false⟩) ∧ TH H' vn [] ∧ BH H' vd []) := by
  refine AC_of_WE Try.func122 rfl ?_
  simp only [Try.ntmps122, List.length_cons, List.length_nil, List.replicate, List.cons_append, List.nil_append, mem_enter]
  have hil := (List.getElem?_eq_some_iff.1 hr0).1
  have w_oldtag : IntKind.wrap .i64 a.oldtag = a.oldtag := wrap_i64 (by omega) (by omega)
  (repeat refine W_seq ?_); refine W_regionT [] ?_
  simp only [go_sem, boxB, List.nil_append, List.cons_append, List.length_nil, List.length_cons, Nat.zero_add, Nat.reduceAdd]
  (repeat refine W_seq ?_); refine W_regionT [] ?_
  simp only [go_sem]
  (repeat refine W_seq ?_); refine W_regionT [] ?_
  simp only [go_sem]
  (repeat refine W_seq ?_); refine W_regionT [] ?_
  simp only [go_sem, ka0 (get0 hr0), kl0 (get0 hr0)]
  (repeat refine W_seq ?_)
  refine W_block ?_
  (repeat refine W_seq ?_); refine W_regionT [] ?_
  simp only [go_sem]
  (repeat refine W_seq ?_)
  refine W_cond (b := false) rfl ?_
  simp only [Bool.false_eq_true, if_false]
  (repeat refine W_seq ?_); refine W_regionT [] ?_
  simp only [go_sem]
  (repeat refine W_seq ?_)
  refine W_cond (b := false) rfl ?_
  simp only [Bool.false_eq_true, if_false]
  (repeat refine W_seq ?_); refine W_regionT [] ?_
  simp only [go_sem]
  (repeat refine W_seq ?_)
  refine W_cond (b := true) rfl ?_
  simp only [if_true]
  (repeat refine W_seq ?_); refine W_regionT [] ?_
  simp only [go_sem, ldB]
  refine AT_call rfl rfl (num37 r0 hq) fun v M1 hd1 h1 => ?_
  obtain ⟨hv, G1, rfl, u1, r1⟩ := h1
  rw [(r16 h_oldtag).1] at hv
  rw [(r16 h_oldtag).2] at r1
  subst hv
  have hr1 := keepR u1 hr0 hit
  obtain ⟨rs9_6, hs9_6, us9_6⟩ := r1.put (b := Block.row ⟨72, 14, AskR.cells ⟨108, a.tag, 0, 0, a.oldtag, 0, 0, 0, 0, 0, [], [], 0, []⟩ .nilsl .nilsl, false, false⟩) hr1 hit hqt
  simp only [go_sem, ldB, ti3, ti5, ti23, ti24, ti29, w_oldtag, ka4 (get0 hr1), ks4 (a := ⟨108, a.tag, 0, 0, 0, 0, 0, 0, 0, 0, [], [], 0, []⟩) (get0 hr1)]
  (repeat refine W_seq ?_); refine W_regionT [] ?_
  simp only [go_sem, ka0 (get0 hs9_6), kl0 (get0 hs9_6), ka12 (get0 hs9_6), kl12 (get0 hs9_6)]
  (repeat refine W_seq ?_)
  refine W_cond (b := false) rfl ?_
  simp only [Bool.false_eq_true, if_false]
  refine W_skip ?_
  simp only [go_sem]
  (repeat refine W_seq ?_); refine W_regionT [] ?_
  simp only [go_sem]
  exact W_ret ⟨.inr rfl, _, rfl, rfl, rfl, _, _, _, rfl, ((UpdH.refl).trans (u1.mono (fun k _ h => .inl h)) (fun k _ h => h) (fun k _ h => h)).trans (us9_6.mono (fun k _ h => .inr h)) (fun k _ h => h) (fun k _ h => h), rs9_6, hs9_6, TH.nil, BH.nil⟩
theorem get122_110 {a : AskR} (r0 : RdAt q H ix (le (u32 a.newfid) 4 ++ (le (u16 a.names.length) 2 ++ textsOf a.names), 0)) (hq : ¬ q ix) (hr0 : H[it]? = some (Block.row ⟨72, 14, AskR.cells ⟨110, a.tag, a.fid, 0, 0, 0, 0, 0, 0, 0, [], [], 0, []⟩ .nilsl .nilsl, false, false⟩)) (hit : it ≠ ix) (hqt : ¬ q it) (hqb : ∀ k, q k → k < H.length) (fit : a.Fit) (h_newfid : 0 ≤ a.newfid ∧ a.newfid ≤ 4294967295) : AC Try.prog 122 [.ptr ⟨0, ix, 0⟩, .ptr ⟨0, it, 0⟩] ⟨H, S⟩ (fun v M' => v = .bool true ∧ ∃ H' vn vd, M' = ⟨H', S⟩ ∧ UpdH (fun k => k = ix ∨ k = it) H H' ∧ RdAt q H' ix ([], 0) ∧ H'[it]? = some (Block.row ⟨72, 14, AskR.cells ⟨110, a.tag, a.fid, a.newfid, 0, 0, 0, 0, 0, 0, [], a.names, 0, []⟩ vn vd, false, false⟩) ∧ TH H' vn a.names ∧ BH H' vd []) := by
  refine AC_of_WE Try.func122 rfl ?_
  simp only [Try.ntmps122, List.length_cons, List.length_nil, List.replicate, List.cons_append, List.nil_append, mem_enter]
  have hil := (List.getElem?_eq_some_iff.1 hr0).1
  have w_newfid : IntKind.wrap .i64 a.newfid = a.newfid := wrap_i64 (by omega) (by omega)
  (repeat refine W_seq ?_); refine W_regionT [] ?_
  simp only [go_sem, boxB, List.nil_append, List.cons_append, List.length_nil, List.length_cons, Nat.zero_add, Nat.reduceAdd]
  (repeat refine W_seq ?_); refine W_regionT [] ?_
  simp only [go_sem]
  (repeat refine W_seq ?_); refine W_regionT [] ?_
  simp only [go_sem]
  (repeat refine W_seq ?_); refine W_regionT [] ?_
  simp only [go_sem, ka0 (get0 hr0), kl0 (get0 hr0)]
  (repeat refine W_seq ?_)
  refine W_block ?_
  (repeat refine W_seq ?_); refine W_regionT [] ?_
  simp only [go_sem]
  (repeat refine W_seq ?_)
  refine W_cond (b := false) rfl ?_
  simp only [Bool.false_eq_true, if_false]
  (repeat refine W_seq ?_); refine W_regionT [] ?_
  simp only [go_sem]
  (repeat refine W_seq ?_)
  refine W_cond (b := false) rfl ?_
  simp only [Bool.false_eq_true, if_false]
  (repeat refine W_seq ?_); refine W_regionT [] ?_
  simp only [go_sem]
  (repeat refine W_seq ?_)
  refine W_cond (b := false) rfl ?_
  simp only [Bool.false_eq_true, if_false]
  (repeat refine W_seq ?_); refine W_regionT [] ?_
  simp only [go_sem]
  (repeat refine W_seq ?_)
  refine W_cond (b := true) rfl ?_
  simp only [if_true]
  (repeat refine W_seq ?_); refine W_regionT [] ?_
  simp only [go_sem, ldB]
  refine AT_call rfl rfl (get147 r0 hq) fun v M1 hd1 h1 => ?_
  obtain ⟨hv, G1, rfl, u1, r1⟩ := h1
  rw [(r32 h_newfid).1] at hv
  rw [(r32 h_newfid).2] at r1
  subst hv
  have hr1 := keepR u1 hr0 hit
  obtain ⟨rs11_5, hs11_5, us11_5⟩ := r1.put (b := Block.row ⟨72, 14, AskR.cells ⟨110, a.tag, a.fid, a.newfid, 0, 0, 0, 0, 0, 0, [], [], 0, []⟩ .nilsl .nilsl, false, false⟩) hr1 hit hqt
  simp only [go_sem, ldB, ti3, ti5, ti23, ti24, ti29, w_newfid, ka3 (get0 hr1), ks3 (a := ⟨110, a.tag, a.fid, 0, 0, 0, 0, 0, 0, 0, [], [], 0, []⟩) (get0 hr1)]
  (repeat refine W_seq ?_); refine W_regionT [] ?_
  simp only [go_sem, ldB]
  refine AT_call rfl rfl (names148 rs11_5 hq fit.l fit.s (fun k hk => by have := hqb k hk; simp; have := u1.l; omega)) fun v M1 hd1 h1 => ?_
  obtain ⟨G2, vn, rfl, rfl, u2, r2, on, ln⟩ := h1
  have hr2 := keepR u2 hs11_5 hit
  obtain ⟨rs12_8, hs12_8, us12_8⟩ := r2.put (b := Block.row ⟨72, 14, AskR.cells ⟨110, a.tag, a.fid, a.newfid, 0, 0, 0, 0, 0, 0, [], [], 0, []⟩ vn .nilsl, false, false⟩) hr2 hit hqt
  simp only [go_sem, ldB, ti3, ti5, ti23, ti24, ti29, w_newfid, ka11 (get0 hr2), ks11 (a := ⟨110, a.tag, a.fid, a.newfid, 0, 0, 0, 0, 0, 0, [], [], 0, []⟩) (OH1 on).1 (OH1 on).2 (get0 hr2)]
  (repeat refine W_seq ?_); refine W_regionT [] ?_
  simp only [go_sem, ka0 (get0 hs12_8), kl0 (get0 hs12_8), ka12 (get0 hs12_8), kl12 (get0 hs12_8)]
  (repeat refine W_seq ?_)
  refine W_cond (b := false) rfl ?_
  simp only [Bool.false_eq_true, if_false]
  refine W_skip ?_
  simp only [go_sem]
  (repeat refine W_seq ?_); refine W_regionT [] ?_
  simp only [go_sem]
  exact W_ret ⟨.inr rfl, _, rfl, rfl, rfl, _, _, _, rfl, ((((UpdH.refl).trans (u1.mono (fun k _ h => .inl h)) (fun k _ h => h) (fun k _ h => h)).trans (us11_5.mono (fun k _ h => .inr h)) (fun k _ h => h) (fun k _ h => h)).trans (u2.mono (fun k _ h => .inl h)) (fun k _ h => h) (fun k _ h => h)).trans (us12_8.mono (fun k _ h => .inr h)) (fun k _ h => h) (fun k _ h => h), rs12_8, hs12_8, (on.upd us12_8 (fun k hk h => by have := ln k hk; simp at this; have := u1.l; omega)).rh, BH.nil⟩
theorem get122_112 {a : AskR} (r0 : RdAt q H ix (le (u8 a.mode) 1 ++ ([]), 0)) (hq : ¬ q ix) (hr0 : H[it]? = some (Block.row ⟨72, 14, AskR.cells ⟨112, a.tag, a.fid, 0, 0, 0, 0, 0, 0, 0, [], [], 0, []⟩ .nilsl .nilsl, false, false⟩)) (hit : it ≠ ix) (hqt : ¬ q it) (hqb : ∀ k, q k → k < H.length) (fit : a.Fit) (h_mode : 0 ≤ a.mode ∧ a.mode ≤ 255) : AC Try.prog 122 [.ptr ⟨0, ix, 0⟩, .ptr ⟨0, it, 0⟩] ⟨H, S⟩ (fun v M' => v = .bool true ∧ ∃ H' vn vd, M' = ⟨H', S⟩ ∧ UpdH (fun k => k = ix ∨ k = it) H H' ∧ RdAt q H' ix ([], 0) ∧ H'[it]? = some (Block.row ⟨72, 14, AskR.cells ⟨112, a.tag, a.fid, 0, 0, 0, a.mode, 0, 0, 0, [], [], 0, []⟩ vn vd, false, false⟩) ∧ TH H' vn [] ∧ BH H' vd []) := by
  refine AC_of_WE Try.func122 rfl ?_
  simp only [Try.ntmps122, List.length_cons, List.length_nil, List.replicate, List.cons_append, List.nil_append, mem_enter]
  have hil := (List.getElem?_eq_some_iff.1 hr0).1
  have w_mode : IntKind.wrap .i64 a.mode = a.mode := wrap_i64 (by omega) (by omega)
  (repeat refine W_seq ?_); refine W_regionT [] ?_
  simp only [go_sem, boxB, List.nil_append, List.cons_append, List.length_nil, List.length_cons, Nat.zero_add, Nat.reduceAdd]
  (repeat refine W_seq ?_); refine W_regionT [] ?_
  simp only [go_sem]
  (repeat refine W_seq ?_); refine W_regionT [] ?_
  simp only [go_sem]
  (repeat refine W_seq ?_); refine W_regionT [] ?_
  simp only [go_sem, ka0 (get0 hr0), kl0 (get0 hr0)]
  (repeat refine W_seq ?_)
  refine W_block ?_
  (repeat refine W_seq ?_); refine W_regionT [] ?_
  simp only [go_sem]
  (repeat refine W_seq ?_)
  refine W_cond (b := false) rfl ?_
  simp only [Bool.false_eq_true, if_false]
  (repeat refine W_seq ?_); refine W_regionT [] ?_
  simp only [go_sem]
  (repeat refine W_seq ?_)
  refine W_cond (b := false) rfl ?_
  simp only [Bool.false_eq_true, if_false]
  (repeat refine W_seq ?_); refine W_regionT [] ?_
  simp only [go_sem]
  (repeat refine W_seq ?_)
  refine W_cond (b := false) rfl ?_
  simp only [Bool.false_eq_true, if_false]
  (repeat refine W_seq ?_); refine W_regionT [] ?_
  simp only [go_sem]
  (repeat refine W_seq ?_)
  refine W_cond (b := false) rfl ?_
  simp only [Bool.false_eq_true, if_false]
  (repeat refine W_seq ?_); refine W_regionT [] ?_
  simp only [go_sem]
  (repeat refine W_seq ?_)
  refine W_cond (b := true) rfl ?_
  simp only [if_true]
  (repeat refine W_seq ?_); refine W_regionT [] ?_
  simp only [go_sem, ldB]
  refine AT_call rfl rfl (num35 r0 hq) fun v M1 hd1 h1 => ?_
  obtain ⟨hv, G1, rfl, u1, r1⟩ := h1
  rw [(r8 h_mode).1] at hv
  rw [(r8 h_mode).2] at r1
  subst hv
  have hr1 := keepR u1 hr0 hit
  obtain ⟨rs14_6, hs14_6, us14_6⟩ := r1.put (b := Block.row ⟨72, 14, AskR.cells ⟨112, a.tag, a.fid, 0, 0, 0, a.mode, 0, 0, 0, [], [], 0, []⟩ .nilsl .nilsl, false, false⟩) hr1 hit hqt
  simp only [go_sem, ldB, ti3, ti5, ti23, ti24, ti29, w_mode, ka6 (get0 hr1), ks6 (a := ⟨112, a.tag, a.fid, 0, 0, 0, 0, 0, 0, 0, [], [], 0, []⟩) (get0 hr1)]
  (repeat refine W_seq ?_); refine W_regionT [] ?_
  simp only [go_sem, ka0 (get0 hs14_6), kl0 (get0 hs14_6), ka12 (get0 hs14_6), kl12 (get0 hs14_6)]
  (repeat refine W_seq ?_)
  refine W_cond (b := false) rfl ?_
  simp only [Bool.false_eq_true, if_false]
  refine W_skip ?_
  simp only [go_sem]
  (repeat refine W_seq ?_); refine W_regionT [] ?_
  simp only [go_sem]
  exact W_ret ⟨.inr rfl, _, rfl, rfl, rfl, _, _, _, rfl, ((UpdH.refl).trans (u1.mono (fun k _ h => .inl h)) (fun k _ h => h) (fun k _ h => h)).trans (us14_6.mono (fun k _ h => .inr h)) (fun k _ h => h) (fun k _ h => h), rs14_6, hs14_6, TH.nil, BH.nil⟩
theorem get122_114 {a : AskR} (r0 : RdAt q H ix (le a.name.length 2 ++ (a.name ++ (le (u32 a.perm) 4 ++ (le (u8 a.mode) 1 ++ ([])))), 0)) (hq : ¬ q ix) (hr0 : H[it]? = some (Block.row ⟨72, 14, AskR.cells ⟨114, a.tag, a.fid, 0, 0, 0, 0, 0, 0, 0, [], [], 0, []⟩ .nilsl .nilsl, false, false⟩)) (hit : it ≠ ix) (hqt : ¬ q it) (hqb : ∀ k, q k → k < H.length) (fit : a.Fit) (h_perm : 0 ≤ a.perm ∧ a.perm ≤ 4294967295) (h_mode : 0 ≤ a.mode ∧ a.mode ≤ 255) : AC Try.prog 122 [.ptr ⟨0, ix, 0⟩, .ptr ⟨0, it, 0⟩] ⟨H, S⟩ (fun v M' => v = .bool true ∧ ∃ H' vn vd, M' = ⟨H', S⟩ ∧ UpdH (fun k => k = ix ∨ k = it) H H' ∧ RdAt q H' ix ([], 0) ∧ H'[it]? = some (Block.row ⟨72, 14, AskR.cells ⟨114, a.tag, a.fid, 0, 0, 0, a.mode, a.perm, 0, 0, a.name, [], 0, []⟩ vn vd, false, false⟩) ∧ TH H' vn [] ∧ BH H' vd []) := by
  refine AC_of_WE Try.func122 rfl ?_
  simp only [Try.ntmps122, List.length_cons, List.length_nil, List.replicate, List.cons_append, List.nil_append, mem_enter]
  have hil := (List.getElem?_eq_some_iff.1 hr0).1
  have w_perm : IntKind.wrap .i64 a.perm = a.perm := wrap_i64 (by omega) (by omega)
  have w_mode : IntKind.wrap .i64 a.mode = a.mode := wrap_i64 (by omega) (by omega)
  (repeat refine W_seq ?_); refine W_regionT [] ?_
  simp only [go_sem, boxB, List.nil_append, List.cons_append, List.length_nil, List.length_cons, Nat.zero_add, Nat.reduceAdd]
  (repeat refine W_seq ?_); refine W_regionT [] ?_
  simp only [go_sem]
  (repeat refine W_seq ?_); refine W_regionT [] ?_
  simp only [go_sem]
  (repeat refine W_seq ?_); refine W_regionT [] ?_
  simp only [go_sem, ka0 (get0 hr0), kl0 (get0 hr0)]
  (repeat refine W_seq ?_)
  refine W_block ?_
  (repeat refine W_seq ?_); refine W_regionT [] ?_
  simp only [go_sem]
  (repeat refine W_seq ?_)
  refine W_cond (b := false) rfl ?_
  simp only [Bool.false_eq_true, if_false]
  (repeat refine W_seq ?_); refine W_regionT [] ?_
  simp only [go_sem]
  (repeat refine W_seq ?_)
  refine W_cond (b := false) rfl ?_
  simp only [Bool.false_eq_true, if_false]
  (repeat refine W_seq ?_); refine W_regionT [] ?_
  simp only [go_sem]
  (repeat refine W_seq ?_)
  refine W_cond (b := false) rfl ?_
  simp only [Bool.false_eq_true, if_false]
  (repeat refine W_seq ?_); refine W_regionT [] ?_
  simp only [go_sem]
  (repeat refine W_seq ?_)
  refine W_cond (b := false) rfl ?_
  simp only [Bool.false_eq_true, if_false]
  (repeat refine W_seq ?_); refine W_regionT [] ?_
  simp only [go_sem]
  (repeat refine W_seq ?_)
  refine W_cond (b := false) rfl ?_
  simp only [Bool.false_eq_true, if_false]
  (repeat refine W_seq ?_); refine W_regionT [] ?_
  simp only [go_sem]
  (repeat refine W_seq ?_)
  refine W_cond (b := true) rfl ?_
  simp only [if_true]
  (repeat refine W_seq ?_); refine W_regionD [] [4, 6, 8, 12, 15, 18] [0, 1, 2, 3, 5, 7, 4, 6, 8, 9, 10, 11, 12, 13, 14, 15, 16, 17, 18] [0, 0, 0, 0, 8, 0, 56, 0, 248, 504, 505, 1529, 3577, 7675, 15867, 32251, 65535, 131071, 262143] mixedM (by kernel_rfl) (by kernel_rfl) (by kernel_rfl) ?_
  simp only [listed, go_sem, w_perm, w_mode]
  refine AD_read (v := .ptr ⟨0, ix, 0⟩) (fun M' => M'.get (S.length + 1) 0 = some (BOXR ix)) rfl rfl (fun M' h => by show pureV (loadA Try.prog 41 (.ptr ⟨S.length + 1, 0, 0⟩) M') M' = _; rw [ldBG h]; rfl) (gt0) ?_
  simp only [go_sem, w_perm, w_mode]
  refine AD_read (v := .ptr ⟨0, ix, 0⟩) (fun M' => M'.get (S.length + 1) 0 = some (BOXR ix)) rfl rfl (fun M' h => by show pureV (loadA Try.prog 41 (.ptr ⟨S.length + 1, 0, 0⟩) M') M' = _; rw [ldBG h]; rfl) (gt0) ?_
  simp only [go_sem, w_perm, w_mode]
  refine AD_call rfl rfl rfl (readText r0 hq) fun v M1 hd1 h1 => ?_
  obtain ⟨hv, G1, rfl, u1, r1⟩ := h1
  rw [rT fit.n] at hv r1
  subst hv
  have hr1 := keepR u1 hr0 hit
  refine ⟨⟨fun _ => gt0, fun _ => gt0, trivial⟩, ?_⟩
  simp only [go_sem, ti3, ti5, ti23, ti24, ti29, w_perm, w_mode]
  refine AD_call rfl rfl rfl (get147 r1 hq) fun v M1 hd1 h1 => ?_
  obtain ⟨hv, G2, rfl, u2, r2⟩ := h1
  rw [(r32 h_perm).1] at hv
  rw [(r32 h_perm).2] at r2
  subst hv
  have hr2 := keepR u2 hr1 hit
  refine ⟨⟨fun _ => gt0, fun _ => gt0, trivial⟩, ?_⟩
  simp only [go_sem, ti3, ti5, ti23, ti24, ti29, w_perm, w_mode]
  refine AD_call rfl rfl rfl (num35 r2 hq) fun v M1 hd1 h1 => ?_
  obtain ⟨hv, G3, rfl, u3, r3⟩ := h1
  rw [(r8 h_mode).1] at hv
  rw [(r8 h_mode).2] at r3
  subst hv
  have hr3 := keepR u3 hr2 hit
  refine ⟨⟨fun _ => gt0, fun _ => gt0, trivial⟩, ?_⟩
  simp only [go_sem, ti3, ti5, ti23, ti24, ti29, w_perm, w_mode]
  refine AD_convI rfl rfl ti5 ti3 rfl ?_
  simp only [go_sem, w_perm, w_mode]
  refine AD_read (v := .ptr ⟨0, it, 10⟩) (fun M' => M'.get 0 it = some (Block.row ⟨72, 14, AskR.cells ⟨114, a.tag, a.fid, 0, 0, 0, 0, 0, 0, 0, [], [], 0, []⟩ .nilsl .nilsl, false, false⟩)) rfl rfl (fun M' h => by show pureV (fieldAddrA Try.prog 72 (.ptr ⟨0, it, 0⟩) 10 M') M' = _; rw [ka10 h]; rfl) (get0 hr3) ?_
  simp only [go_sem, w_perm, w_mode]
  refine AD_loud (v := .undef) (M' := ⟨(G3).set it (Block.row ⟨72, 14, AskR.cells ⟨114, a.tag, a.fid, 0, 0, 0, 0, 0, 0, 0, a.name, [], 0, []⟩ .nilsl .nilsl, false, false⟩), [BOXR ix] :: S⟩) rfl ((ks10 (a := ⟨114, a.tag, a.fid, 0, 0, 0, 0, 0, 0, 0, [], [], 0, []⟩) (get0 hr3)).trans (by rw [mem_set0])) ⟨fun ha => absurd (ha.symm.trans (show ancB _ _ _ _ = true by kernel_rfl)) (by decide), fun ha => absurd (ha.symm.trans (show ancB _ _ _ _ = true by kernel_rfl)) (by decide), fun ha => absurd (ha.symm.trans (show ancB _ _ _ _ = true by kernel_rfl)) (by decide), trivial⟩ ?_
  obtain ⟨rs16_12, hs16_12, us16_12⟩ := r3.put (b := Block.row ⟨72, 14, AskR.cells ⟨114, a.tag, a.fid, 0, 0, 0, 0, 0, 0, 0, a.name, [], 0, []⟩ .nilsl .nilsl, false, false⟩) hr3 hit hqt
  simp only [go_sem, w_perm, w_mode]
  refine AD_read (v := .ptr ⟨0, it, 7⟩) (fun M' => M'.get 0 it = some (Block.row ⟨72, 14, AskR.cells ⟨114, a.tag, a.fid, 0, 0, 0, 0, 0, 0, 0, a.name, [], 0, []⟩ .nilsl .nilsl, false, false⟩)) rfl rfl (fun M' h => by show pureV (fieldAddrA Try.prog 72 (.ptr ⟨0, it, 0⟩) 7 M') M' = _; rw [ka7 h]; rfl) (get0 hs16_12) ?_
  simp only [go_sem, w_perm, w_mode]
  refine AD_loud (v := .undef) (M' := ⟨((G3).set it (Block.row ⟨72, 14, AskR.cells ⟨114, a.tag, a.fid, 0, 0, 0, 0, 0, 0, 0, a.name, [], 0, []⟩ .nilsl .nilsl, false, false⟩)).set it (Block.row ⟨72, 14, AskR.cells ⟨114, a.tag, a.fid, 0, 0, 0, 0, a.perm, 0, 0, a.name, [], 0, []⟩ .nilsl .nilsl, false, false⟩), [BOXR ix] :: S⟩) rfl ((ks7 (a := ⟨114, a.tag, a.fid, 0, 0, 0, 0, 0, 0, 0, a.name, [], 0, []⟩) (get0 hs16_12)).trans (by rw [mem_set0])) ⟨fun ha => absurd (ha.symm.trans (show ancB _ _ _ _ = true by kernel_rfl)) (by decide), fun ha => absurd (ha.symm.trans (show ancB _ _ _ _ = true by kernel_rfl)) (by decide), fun ha => absurd (ha.symm.trans (show ancB _ _ _ _ = true by kernel_rfl)) (by decide), fun ha => absurd (ha.symm.trans (show ancB _ _ _ _ = true by kernel_rfl)) (by decide), trivial⟩ ?_
  obtain ⟨rs16_15, hs16_15, us16_15⟩ := rs16_12.put (b := Block.row ⟨72, 14, AskR.cells ⟨114, a.tag, a.fid, 0, 0, 0, 0, a.perm, 0, 0, a.name, [], 0, []⟩ .nilsl .nilsl, false, false⟩) hs16_12 hit hqt
  simp only [go_sem, w_perm, w_mode]
  refine AD_read (v := .ptr ⟨0, it, 6⟩) (fun M' => M'.get 0 it = some (Block.row ⟨72, 14, AskR.cells ⟨114, a.tag, a.fid, 0, 0, 0, 0, a.perm, 0, 0, a.name, [], 0, []⟩ .nilsl .nilsl, false, false⟩)) rfl rfl (fun M' h => by show pureV (fieldAddrA Try.prog 72 (.ptr ⟨0, it, 0⟩) 6 M') M' = _; rw [ka6 h]; rfl) (get0 hs16_15) ?_
  simp only [go_sem, w_perm, w_mode]
  refine AD_loud (v := .undef) (M' := ⟨(((G3).set it (Block.row ⟨72, 14, AskR.cells ⟨114, a.tag, a.fid, 0, 0, 0, 0, 0, 0, 0, a.name, [], 0, []⟩ .nilsl .nilsl, false, false⟩)).set it (Block.row ⟨72, 14, AskR.cells ⟨114, a.tag, a.fid, 0, 0, 0, 0, a.perm, 0, 0, a.name, [], 0, []⟩ .nilsl .nilsl, false, false⟩)).set it (Block.row ⟨72, 14, AskR.cells ⟨114, a.tag, a.fid, 0, 0, 0, a.mode, a.perm, 0, 0, a.name, [], 0, []⟩ .nilsl .nilsl, false, false⟩), [BOXR ix] :: S⟩) rfl ((ks6 (a := ⟨114, a.tag, a.fid, 0, 0, 0, 0, a.perm, 0, 0, a.name, [], 0, []⟩) (get0 hs16_15)).trans (by rw [mem_set0])) ⟨fun ha => absurd (ha.symm.trans (show ancB _ _ _ _ = true by kernel_rfl)) (by decide), fun ha => absurd (ha.symm.trans (show ancB _ _ _ _ = true by kernel_rfl)) (by decide), fun ha => absurd (ha.symm.trans (show ancB _ _ _ _ = true by kernel_rfl)) (by decide), fun ha => absurd (ha.symm.trans (show ancB _ _ _ _ = true by kernel_rfl)) (by decide), fun ha => absurd (ha.symm.trans (show ancB _ _ _ _ = true by kernel_rfl)) (by decide), trivial⟩ ?_
  obtain ⟨rs16_18, hs16_18, us16_18⟩ := rs16_15.put (b := Block.row ⟨72, 14, AskR.cells ⟨114, a.tag, a.fid, 0, 0, 0, a.mode, a.perm, 0, 0, a.name, [], 0, []⟩ .nilsl .nilsl, false, false⟩) hs16_15 hit hqt
  simp only [go_sem, w_perm, w_mode]
  (repeat refine W_seq ?_); refine W_regionT [] ?_
  simp only [go_sem, ka0 (get0 hs16_18), kl0 (get0 hs16_18), ka12 (get0 hs16_18), kl12 (get0 hs16_18)]
  (repeat refine W_seq ?_)
  refine W_cond (b := false) rfl ?_
  simp only [Bool.false_eq_true, if_false]
  refine W_skip ?_
  simp only [go_sem]
  (repeat refine W_seq ?_); refine W_regionT [] ?_
  simp only [go_sem]
  exact W_ret ⟨.inr rfl, _, rfl, rfl, rfl, _, _, _, rfl, ((((((UpdH.refl).trans (u1.mono (fun k _ h => .inl h)) (fun k _ h => h) (fun k _ h => h)).trans (u2.mono (fun k _ h => .inl h)) (fun k _ h => h) (fun k _ h => h)).trans (u3.mono (fun k _ h => .inl h)) (fun k _ h => h) (fun k _ h => h)).trans (us16_12.mono (fun k _ h => .inr h)) (fun k _ h => h) (fun k _ h => h)).trans (us16_15.mono (fun k _ h => .inr h)) (fun k _ h => h) (fun k _ h => h)).trans (us16_18.mono (fun k _ h => .inr h)) (fun k _ h => h) (fun k _ h => h), rs16_18, hs16_18, TH.nil, BH.nil⟩
theorem get122_116 {a : AskR} (r0 : RdAt q H ix (le (u64 a.off) 8 ++ (le (u32 a.count) 4 ++ ([])), 0)) (hq : ¬ q ix) (hr0 : H[it]? = some (Block.row ⟨72, 14, AskR.cells ⟨116, a.tag, a.fid, 0, 0, 0, 0, 0, 0, 0, [], [], 0, []⟩ .nilsl .nilsl, false, false⟩)) (hit : it ≠ ix) (hqt : ¬ q it) (hqb : ∀ k, q k → k < H.length) (fit : a.Fit) (h_off : 0 ≤ a.off ∧ a.off ≤ 4611686018427387904) (h_count : 0 ≤ a.count ∧ a.count ≤ 4294967295) : AC Try.prog 122 [.ptr ⟨0, ix, 0⟩, .ptr ⟨0, it, 0⟩] ⟨H, S⟩ (fun v M' => v = .bool true ∧ ∃ H' vn vd, M' = ⟨H', S⟩ ∧ UpdH (fun k => k = ix ∨ k = it) H H' ∧ RdAt q H' ix ([], 0) ∧ H'[it]? = some (Block.row ⟨72, 14, AskR.cells ⟨116, a.tag, a.fid, 0, 0, 0, 0, 0, a.off, a.count, [], [], 0, []⟩ vn vd, false, false⟩) ∧ TH H' vn [] ∧ BH H' vd []) := by
  refine AC_of_WE Try.func122 rfl ?_
  simp only [Try.ntmps122, List.length_cons, List.length_nil, List.replicate, List.cons_append, List.nil_append, mem_enter]
  have hil := (List.getElem?_eq_some_iff.1 hr0).1
  have w_off : IntKind.wrap .i64 a.off = a.off := wrap_i64 (by omega) (by omega)
  have w_count : IntKind.wrap .i64 a.count = a.count := wrap_i64 (by omega) (by omega)
  (repeat refine W_seq ?_); refine W_regionT [] ?_
  simp only [go_sem, boxB, List.nil_append, List.cons_append, List.length_nil, List.length_cons, Nat.zero_add, Nat.reduceAdd]
  (repeat refine W_seq ?_); refine W_regionT [] ?_
  simp only [go_sem]
  (repeat refine W_seq ?_); refine W_regionT [] ?_
  simp only [go_sem]
  (repeat refine W_seq ?_); refine W_regionT [] ?_
  simp only [go_sem, ka0 (get0 hr0), kl0 (get0 hr0)]
  (repeat refine W_seq ?_)
  refine W_block ?_
  (repeat refine W_seq ?_); refine W_regionT [] ?_
  simp only [go_sem]
  (repeat refine W_seq ?_)
  refine W_cond (b := false) rfl ?_
  simp only [Bool.false_eq_true, if_false]
  (repeat refine W_seq ?_); refine W_regionT [] ?_
  simp only [go_sem]
  (repeat refine W_seq ?_)
  refine W_cond (b := false) rfl ?_
  simp only [Bool.false_eq_true, if_false]
  (repeat refine W_seq ?_); refine W_regionT [] ?_
  simp only [go_sem]
  (repeat refine W_seq ?_)
  refine W_cond (b := false) rfl ?_
  simp only [Bool.false_eq_true, if_false]
  (repeat refine W_seq ?_); refine W_regionT [] ?_
  simp only [go_sem]
  (repeat refine W_seq ?_)
  refine W_cond (b := false) rfl ?_
  simp only [Bool.false_eq_true, if_false]
  (repeat refine W_seq ?_); refine W_regionT [] ?_
  simp only [go_sem]
  (repeat refine W_seq ?_)
  refine W_cond (b := false) rfl ?_
  simp only [Bool.false_eq_true, if_false]
  (repeat refine W_seq ?_); refine W_regionT [] ?_
  simp only [go_sem]
  (repeat refine W_seq ?_)
  refine W_cond (b := false) rfl ?_
  simp only [Bool.false_eq_true, if_false]
  (repeat refine W_seq ?_); refine W_regionT [] ?_
  simp only [go_sem]
  (repeat refine W_seq ?_)
  refine W_cond (b := true) rfl ?_
  simp only [if_true]
  (repeat refine W_seq ?_); refine W_regionT [] ?_
  simp only [go_sem, ldB]
  refine AT_call rfl rfl (num39 r0 hq) fun v M1 hd1 h1 => ?_
  obtain ⟨hv, G1, rfl, u1, r1⟩ := h1
  rw [(r64 h_off).1] at hv
  rw [(r64 h_off).2] at r1
  subst hv
  have hr1 := keepR u1 hr0 hit
  simp only [go_sem, ldB, ti3, ti5, ti23, ti24, ti29, w_off, w_count]
  refine AT_call rfl rfl (get147 r1 hq) fun v M1 hd1 h1 => ?_
  obtain ⟨hv, G2, rfl, u2, r2⟩ := h1
  rw [(r32 h_count).1] at hv
  rw [(r32 h_count).2] at r2
  subst hv
  have hr2 := keepR u2 hr1 hit
  obtain ⟨rs18_9, hs18_9, us18_9⟩ := r2.put (b := Block.row ⟨72, 14, AskR.cells ⟨116, a.tag, a.fid, 0, 0, 0, 0, 0, a.off, 0, [], [], 0, []⟩ .nilsl .nilsl, false, false⟩) hr2 hit hqt
  obtain ⟨rs18_12, hs18_12, us18_12⟩ := rs18_9.put (b := Block.row ⟨72, 14, AskR.cells ⟨116, a.tag, a.fid, 0, 0, 0, 0, 0, a.off, a.count, [], [], 0, []⟩ .nilsl .nilsl, false, false⟩) hs18_9 hit hqt
  simp only [go_sem, ldB, ti3, ti5, ti23, ti24, ti29, w_off, w_count, ka8 (get0 hr2), ks8 (a := ⟨116, a.tag, a.fid, 0, 0, 0, 0, 0, 0, 0, [], [], 0, []⟩) (get0 hr2), ka9 (get0 hs18_9), ks9 (a := ⟨116, a.tag, a.fid, 0, 0, 0, 0, 0, a.off, 0, [], [], 0, []⟩) (get0 hs18_9)]
  (repeat refine W_seq ?_); refine W_regionT [] ?_
  simp only [go_sem, ka0 (get0 hs18_12), kl0 (get0 hs18_12), ka12 (get0 hs18_12), kl12 (get0 hs18_12)]
  (repeat refine W_seq ?_)
  refine W_cond (b := false) rfl ?_
  simp only [Bool.false_eq_true, if_false]
  refine W_skip ?_
  simp only [go_sem]
  (repeat refine W_seq ?_); refine W_regionT [] ?_
  simp only [go_sem]
  exact W_ret ⟨.inr rfl, _, rfl, rfl, rfl, _, _, _, rfl, ((((UpdH.refl).trans (u1.mono (fun k _ h => .inl h)) (fun k _ h => h) (fun k _ h => h)).trans (u2.mono (fun k _ h => .inl h)) (fun k _ h => h) (fun k _ h => h)).trans (us18_9.mono (fun k _ h => .inr h)) (fun k _ h => h) (fun k _ h => h)).trans (us18_12.mono (fun k _ h => .inr h)) (fun k _ h => h) (fun k _ h => h), rs18_12, hs18_12, TH.nil, BH.nil⟩
theorem get122_118 {a : AskR} (r0 : RdAt q H ix (le (u64 a.off) 8 ++ (le a.data.length 4 ++ (a.data ++ [])), 0)) (hq : ¬ q ix) (hr0 : H[it]? = some (Block.row ⟨72, 14, AskR.cells ⟨118, a.tag, a.fid, 0, 0, 0, 0, 0, 0, 0, [], [], 0, []⟩ .nilsl .nilsl, false, false⟩)) (hit : it ≠ ix) (hqt : ¬ q it) (hqb : ∀ k, q k → k < H.length) (fit : a.Fit) (h_off : 0 ≤ a.off ∧ a.off ≤ 4611686018427387904) : AC Try.prog 122 [.ptr ⟨0, ix, 0⟩, .ptr ⟨0, it, 0⟩] ⟨H, S⟩ (fun v M' => v = .bool true ∧ ∃ H' vn vd, M' = ⟨H', S⟩ ∧ UpdH (fun k => k = ix ∨ k = it) H H' ∧ RdAt q H' ix ([], 0) ∧ H'[it]? = some (Block.row ⟨72, 14, AskR.cells ⟨118, a.tag, a.fid, 0, 0, 0, 0, 0, a.off, 0, [], [], 0, a.data⟩ vn vd, false, false⟩) ∧ TH H' vn [] ∧ BH H' vd a.data) := by
  refine AC_of_WE Try.func122 rfl ?_
  simp only [Try.ntmps122, List.length_cons, List.length_nil, List.replicate, List.cons_append, List.nil_append, mem_enter]
  have hil := (List.getElem?_eq_some_iff.1 hr0).1
  have w_off : IntKind.wrap .i64 a.off = a.off := wrap_i64 (by omega) (by omega)
  (repeat refine W_seq ?_); refine W_regionT [] ?_
  simp only [go_sem, boxB, List.nil_append, List.cons_append, List.length_nil, List.length_cons, Nat.zero_add, Nat.reduceAdd]
  (repeat refine W_seq ?_); refine W_regionT [] ?_
  simp only [go_sem]
  (repeat refine W_seq ?_); refine W_regionT [] ?_
  simp only [go_sem]
  (repeat refine W_seq ?_); refine W_regionT [] ?_
  simp only [go_sem, ka0 (get0 hr0), kl0 (get0 hr0)]
  (repeat refine W_seq ?_)
  refine W_block ?_
  (repeat refine W_seq ?_); refine W_regionT [] ?_
  simp only [go_sem]
  (repeat refine W_seq ?_)
  refine W_cond (b := false) rfl ?_
  simp only [Bool.false_eq_true, if_false]
  (repeat refine W_seq ?_); refine W_regionT [] ?_
  simp only [go_sem]
  (repeat refine W_seq ?_)
  refine W_cond (b := false) rfl ?_
  simp only [Bool.false_eq_true, if_false]
  (repeat refine W_seq ?_); refine W_regionT [] ?_
  simp only [go_sem]
  (repeat refine W_seq ?_)
  refine W_cond (b := false) rfl ?_
  simp only [Bool.false_eq_true, if_false]
  (repeat refine W_seq ?_); refine W_regionT [] ?_
  simp only [go_sem]
  (repeat refine W_seq ?_)
  refine W_cond (b := false) rfl ?_
  simp only [Bool.false_eq_true, if_false]
  (repeat refine W_seq ?_); refine W_regionT [] ?_
  simp only [go_sem]
  (repeat refine W_seq ?_)
  refine W_cond (b := false) rfl ?_
  simp only [Bool.false_eq_true, if_false]
  (repeat refine W_seq ?_); refine W_regionT [] ?_
  simp only [go_sem]
  (repeat refine W_seq ?_)
  refine W_cond (b := false) rfl ?_
  simp only [Bool.false_eq_true, if_false]
  (repeat refine W_seq ?_); refine W_regionT [] ?_
  simp only [go_sem]
  (repeat refine W_seq ?_)
  refine W_cond (b := false) rfl ?_
  simp only [Bool.false_eq_true, if_false]
  (repeat refine W_seq ?_); refine W_regionT [] ?_
  simp only [go_sem]
  (repeat refine W_seq ?_)
  refine W_cond (b := true) rfl ?_
  simp only [if_true]
  (repeat refine W_seq ?_); refine W_regionD [] [3, 6, 9, 12] [0, 1, 2, 5, 3, 4, 6, 7, 8, 9, 10, 11, 12] [0, 0, 0, 4, 12, 0, 44, 125, 253, 509, 1023, 2047, 4095] mixedM (by kernel_rfl) (by kernel_rfl) (by kernel_rfl) ?_
  simp only [listed, go_sem, w_off]
  refine AD_read (v := .ptr ⟨0, ix, 0⟩) (fun M' => M'.get (S.length + 1) 0 = some (BOXR ix)) rfl rfl (fun M' h => by show pureV (loadA Try.prog 41 (.ptr ⟨S.length + 1, 0, 0⟩) M') M' = _; rw [ldBG h]; rfl) (gt0) ?_
  simp only [go_sem, w_off]
  refine AD_read (v := .ptr ⟨0, ix, 0⟩) (fun M' => M'.get (S.length + 1) 0 = some (BOXR ix)) rfl rfl (fun M' h => by show pureV (loadA Try.prog 41 (.ptr ⟨S.length + 1, 0, 0⟩) M') M' = _; rw [ldBG h]; rfl) (gt0) ?_
  simp only [go_sem, w_off]
  refine AD_call rfl rfl rfl (num39 r0 hq) fun v M1 hd1 h1 => ?_
  obtain ⟨hv, G1, rfl, u1, r1⟩ := h1
  rw [(r64 h_off).1] at hv
  rw [(r64 h_off).2] at r1
  subst hv
  have hr1 := keepR u1 hr0 hit
  refine ⟨⟨fun _ => gt0, fun _ => gt0, trivial⟩, ?_⟩
  simp only [go_sem, ti3, ti5, ti23, ti24, ti29, w_off]
  refine AD_convI rfl rfl ti23 ti3 rfl ?_
  simp only [go_sem, w_off]
  refine AD_call rfl rfl rfl (readData (most := 1024) r1 hq) fun v M1 hd1 h1 => ?_
  obtain ⟨G2, rfl, u2, r2, bd, ld⟩ := h1
  have hrd := rD (t := a.data) (r := []) fit.d
  rw [hrd] at r2 bd
  have hr2 := keepR u2 hr1 hit
  refine ⟨⟨fun _ => gt0, fun _ => gt0, trivial⟩, ?_⟩
  simp only [go_sem, ti3, ti5, ti23, ti24, ti29, w_off]
  refine AD_read (v := .ptr ⟨0, it, 8⟩) (fun M' => M'.get 0 it = some (Block.row ⟨72, 14, AskR.cells ⟨118, a.tag, a.fid, 0, 0, 0, 0, 0, 0, 0, [], [], 0, []⟩ .nilsl .nilsl, false, false⟩)) rfl rfl (fun M' h => by show pureV (fieldAddrA Try.prog 72 (.ptr ⟨0, it, 0⟩) 8 M') M' = _; rw [ka8 h]; rfl) (get0 hr2) ?_
  simp only [go_sem, w_off]
  refine AD_loud (v := .undef) (M' := ⟨(G2).set it (Block.row ⟨72, 14, AskR.cells ⟨118, a.tag, a.fid, 0, 0, 0, 0, 0, a.off, 0, [], [], 0, []⟩ .nilsl .nilsl, false, false⟩), [BOXR ix] :: S⟩) rfl ((ks8 (a := ⟨118, a.tag, a.fid, 0, 0, 0, 0, 0, 0, 0, [], [], 0, []⟩) (get0 hr2)).trans (by rw [mem_set0])) ⟨fun ha => absurd (ha.symm.trans (show ancB _ _ _ _ = true by kernel_rfl)) (by decide), fun ha => absurd (ha.symm.trans (show ancB _ _ _ _ = true by kernel_rfl)) (by decide), fun ha => absurd (ha.symm.trans (show ancB _ _ _ _ = true by kernel_rfl)) (by decide), trivial⟩ ?_
  obtain ⟨rs20_9, hs20_9, us20_9⟩ := r2.put (b := Block.row ⟨72, 14, AskR.cells ⟨118, a.tag, a.fid, 0, 0, 0, 0, 0, a.off, 0, [], [], 0, []⟩ .nilsl .nilsl, false, false⟩) hr2 hit hqt
  simp only [go_sem, w_off]
  refine AD_read (v := .ptr ⟨0, it, 13⟩) (fun M' => M'.get 0 it = some (Block.row ⟨72, 14, AskR.cells ⟨118, a.tag, a.fid, 0, 0, 0, 0, 0, a.off, 0, [], [], 0, []⟩ .nilsl .nilsl, false, false⟩)) rfl rfl (fun M' h => by show pureV (fieldAddrA Try.prog 72 (.ptr ⟨0, it, 0⟩) 13 M') M' = _; rw [ka13 h]; rfl) (get0 hs20_9) ?_
  simp only [go_sem, w_off]
  refine AD_loud (v := .undef) (M' := ⟨((G2).set it (Block.row ⟨72, 14, AskR.cells ⟨118, a.tag, a.fid, 0, 0, 0, 0, 0, a.off, 0, [], [], 0, []⟩ .nilsl .nilsl, false, false⟩)).set it (Block.row ⟨72, 14, AskR.cells ⟨118, a.tag, a.fid, 0, 0, 0, 0, 0, a.off, 0, [], [], 0, []⟩ .nilsl v, false, false⟩), [BOXR ix] :: S⟩) rfl ((ks13 (a := ⟨118, a.tag, a.fid, 0, 0, 0, 0, 0, a.off, 0, [], [], 0, []⟩) bd.one.1 bd.one.2 (get0 hs20_9)).trans (by rw [mem_set0])) ⟨fun ha => absurd (ha.symm.trans (show ancB _ _ _ _ = true by kernel_rfl)) (by decide), fun ha => absurd (ha.symm.trans (show ancB _ _ _ _ = true by kernel_rfl)) (by decide), fun ha => absurd (ha.symm.trans (show ancB _ _ _ _ = true by kernel_rfl)) (by decide), fun ha => absurd (ha.symm.trans (show ancB _ _ _ _ = true by kernel_rfl)) (by decide), trivial⟩ ?_
  obtain ⟨rs20_12, hs20_12, us20_12⟩ := rs20_9.put (b := Block.row ⟨72, 14, AskR.cells ⟨118, a.tag, a.fid, 0, 0, 0, 0, 0, a.off, 0, [], [], 0, []⟩ .nilsl v, false, false⟩) hs20_9 hit hqt
  simp only [go_sem, w_off]
  (repeat refine W_seq ?_); refine W_regionT [] ?_
  simp only [go_sem, ka0 (get0 hs20_12), kl0 (get0 hs20_12), ka12 (get0 hs20_12), kl12 (get0 hs20_12)]
  (repeat refine W_seq ?_)
  refine W_cond (b := false) rfl ?_
  simp only [Bool.false_eq_true, if_false]
  refine W_skip ?_
  simp only [go_sem]
  (repeat refine W_seq ?_); refine W_regionT [] ?_
  simp only [go_sem]
  exact W_ret ⟨.inr rfl, _, rfl, rfl, rfl, _, _, _, rfl, ((((UpdH.refl).trans (u1.mono (fun k _ h => .inl h)) (fun k _ h => h) (fun k _ h => h)).trans (u2.mono (fun k _ h => .inl h)) (fun k _ h => h) (fun k _ h => h)).trans (us20_9.mono (fun k _ h => .inr h)) (fun k _ h => h) (fun k _ h => h)).trans (us20_12.mono (fun k _ h => .inr h)) (fun k _ h => h) (fun k _ h => h), rs20_12, hs20_12, TH.nil, (bd.upd us20_9 (fun k hk h => hqt (h ▸ ld k hk))).upd us20_12 (fun k hk h => hqt (h ▸ ld k hk))⟩
theorem get122_120 {a : AskR} (r0 : RdAt q H ix ([], 0)) (hq : ¬ q ix) (hr0 : H[it]? = some (Block.row ⟨72, 14, AskR.cells ⟨120, a.tag, a.fid, 0, 0, 0, 0, 0, 0, 0, [], [], 0, []⟩ .nilsl .nilsl, false, false⟩)) (hit : it ≠ ix) (hqt : ¬ q it) (hqb : ∀ k, q k → k < H.length) (fit : a.Fit)  : AC Try.prog 122 [.ptr ⟨0, ix, 0⟩, .ptr ⟨0, it, 0⟩] ⟨H, S⟩ (fun v M' => v = .bool true ∧ ∃ H' vn vd, M' = ⟨H', S⟩ ∧ UpdH (fun k => k = ix ∨ k = it) H H' ∧ RdAt q H' ix ([], 0) ∧ H'[it]? = some (Block.row ⟨72, 14, AskR.cells ⟨120, a.tag, a.fid, 0, 0, 0, 0, 0, 0, 0, [], [], 0, []⟩ vn vd, false, false⟩) ∧ TH H' vn [] ∧ BH H' vd []) := by
  refine AC_of_WE Try.func122 rfl ?_
  simp only [Try.ntmps122, List.length_cons, List.length_nil, List.replicate, List.cons_append, List.nil_append, mem_enter]
  have hil := (List.getElem?_eq_some_iff.1 hr0).1
  (repeat refine W_seq ?_); refine W_regionT [] ?_
  simp only [go_sem, boxB, List.nil_append, List.cons_append, List.length_nil, List.length_cons, Nat.zero_add, Nat.reduceAdd]
  (repeat refine W_seq ?_); refine W_regionT [] ?_
  simp only [go_sem]
  (repeat refine W_seq ?_); refine W_regionT [] ?_
  simp only [go_sem]
  (repeat refine W_seq ?_); refine W_regionT [] ?_
  simp only [go_sem, ka0 (get0 hr0), kl0 (get0 hr0)]
  (repeat refine W_seq ?_)
  refine W_block ?_
  (repeat refine W_seq ?_); refine W_regionT [] ?_
  simp only [go_sem]
  (repeat refine W_seq ?_)
  refine W_cond (b := false) rfl ?_
  simp only [Bool.false_eq_true, if_false]
  (repeat refine W_seq ?_); refine W_regionT [] ?_
  simp only [go_sem]
  (repeat refine W_seq ?_)
  refine W_cond (b := false) rfl ?_
  simp only [Bool.false_eq_true, if_false]
  (repeat refine W_seq ?_); refine W_regionT [] ?_
  simp only [go_sem]
  (repeat refine W_seq ?_)
  refine W_cond (b := false) rfl ?_
  simp only [Bool.false_eq_true, if_false]
  (repeat refine W_seq ?_); refine W_regionT [] ?_
  simp only [go_sem]
  (repeat refine W_seq ?_)
  refine W_cond (b := false) rfl ?_
  simp only [Bool.false_eq_true, if_false]
  (repeat refine W_seq ?_); refine W_regionT [] ?_
  simp only [go_sem]
  (repeat refine W_seq ?_)
  refine W_cond (b := false) rfl ?_
  simp only [Bool.false_eq_true, if_false]
  (repeat refine W_seq ?_); refine W_regionT [] ?_
  simp only [go_sem]
  (repeat refine W_seq ?_)
  refine W_cond (b := false) rfl ?_
  simp only [Bool.false_eq_true, if_false]
  (repeat refine W_seq ?_); refine W_regionT [] ?_
  simp only [go_sem]
  (repeat refine W_seq ?_)
  refine W_cond (b := false) rfl ?_
  simp only [Bool.false_eq_true, if_false]
  (repeat refine W_seq ?_); refine W_regionT [] ?_
  simp only [go_sem]
  (repeat refine W_seq ?_)
  refine W_cond (b := false) rfl ?_
  simp only [Bool.false_eq_true, if_false]
  (repeat refine W_seq ?_); refine W_regionT [] ?_
  simp only [go_sem]
  (repeat refine W_seq ?_)
  refine W_cond (b := false) rfl ?_
  simp only [Bool.false_eq_true, if_false]
  refine W_skip ?_
  simp only [go_sem]
  (repeat refine W_seq ?_); refine W_regionT [] ?_
  simp only [go_sem, ka0 (get0 hr0), kl0 (get0 hr0), ka12 (get0 hr0), kl12 (get0 hr0)]
  (repeat refine W_seq ?_)
  refine W_cond (b := false) rfl ?_
  simp only [Bool.false_eq_true, if_false]
  refine W_skip ?_
  simp only [go_sem]
  (repeat refine W_seq ?_); refine W_regionT [] ?_
  simp only [go_sem]
  exact W_ret ⟨.inr rfl, _, rfl, rfl, rfl, _, _, _, rfl, UpdH.refl, r0, hr0, TH.nil, BH.nil⟩
theorem get122_122 {a : AskR} (r0 : RdAt q H ix ([], 0)) (hq : ¬ q ix) (hr0 : H[it]? = some (Block.row ⟨72, 14, AskR.cells ⟨122, a.tag, a.fid, 0, 0, 0, 0, 0, 0, 0, [], [], 0, []⟩ .nilsl .nilsl, false, false⟩)) (hit : it ≠ ix) (hqt : ¬ q it) (hqb : ∀ k, q k → k < H.length) (fit : a.Fit)  : AC Try.prog 122 [.ptr ⟨0, ix, 0⟩, .ptr ⟨0, it, 0⟩] ⟨H, S⟩ (fun v M' => v = .bool true ∧ ∃ H' vn vd, M' = ⟨H', S⟩ ∧ UpdH (fun k => k = ix ∨ k = it) H H' ∧ RdAt q H' ix ([], 0) ∧ H'[it]? = some (Block.row ⟨72, 14, AskR.cells ⟨122, a.tag, a.fid, 0, 0, 0, 0, 0, 0, 0, [], [], 0, []⟩ vn vd, false, false⟩) ∧ TH H' vn [] ∧ BH H' vd []) := by
  refine AC_of_WE Try.func122 rfl ?_
  simp only [Try.ntmps122, List.length_cons, List.length_nil, List.replicate, List.cons_append, List.nil_append, mem_enter]
  have hil := (List.getElem?_eq_some_iff.1 hr0).1
  (repeat refine W_seq ?_); refine W_regionT [] ?_
  simp only [go_sem, boxB, List.nil_append, List.cons_append, List.length_nil, List.length_cons, Nat.zero_add, Nat.reduceAdd]
  (repeat refine W_seq ?_); refine W_regionT [] ?_
  simp only [go_sem]
  (repeat refine W_seq ?_); refine W_regionT [] ?_
  simp only [go_sem]
  (repeat refine W_seq ?_); refine W_regionT [] ?_
  simp only [go_sem, ka0 (get0 hr0), kl0 (get0 hr0)]
  (repeat refine W_seq ?_)
  refine W_block ?_
  (repeat refine W_seq ?_); refine W_regionT [] ?_
  simp only [go_sem]
  (repeat refine W_seq ?_)
  refine W_cond (b := false) rfl ?_
  simp only [Bool.false_eq_true, if_false]
  (repeat refine W_seq ?_); refine W_regionT [] ?_
  simp only [go_sem]
  (repeat refine W_seq ?_)
  refine W_cond (b := false) rfl ?_
  simp only [Bool.false_eq_true, if_false]
  (repeat refine W_seq ?_); refine W_regionT [] ?_
  simp only [go_sem]
  (repeat refine W_seq ?_)
  refine W_cond (b := false) rfl ?_
  simp only [Bool.false_eq_true, if_false]
  (repeat refine W_seq ?_); refine W_regionT [] ?_
  simp only [go_sem]
  (repeat refine W_seq ?_)
  refine W_cond (b := false) rfl ?_
  simp only [Bool.false_eq_true, if_false]
  (repeat refine W_seq ?_); refine W_regionT [] ?_
  simp only [go_sem]
  (repeat refine W_seq ?_)
  refine W_cond (b := false) rfl ?_
  simp only [Bool.false_eq_true, if_false]
  (repeat refine W_seq ?_); refine W_regionT [] ?_
  simp only [go_sem]
  (repeat refine W_seq ?_)
  refine W_cond (b := false) rfl ?_
  simp only [Bool.false_eq_true, if_false]
  (repeat refine W_seq ?_); refine W_regionT [] ?_
  simp only [go_sem]
  (repeat refine W_seq ?_)
  refine W_cond (b := false) rfl ?_
  simp only [Bool.false_eq_true, if_false]
  (repeat refine W_seq ?_); refine W_regionT [] ?_
  simp only [go_sem]
  (repeat refine W_seq ?_)
  refine W_cond (b := false) rfl ?_
  simp only [Bool.false_eq_true, if_false]
  (repeat refine W_seq ?_); refine W_regionT [] ?_
  simp only [go_sem]
  (repeat refine W_seq ?_)
  refine W_cond (b := false) rfl ?_
  simp only [Bool.false_eq_true, if_false]
  refine W_skip ?_
  simp only [go_sem]
  (repeat refine W_seq ?_); refine W_regionT [] ?_
  simp only [go_sem, ka0 (get0 hr0), kl0 (get0 hr0), ka12 (get0 hr0), kl12 (get0 hr0)]
  (repeat refine W_seq ?_)
  refine W_cond (b := false) rfl ?_
  simp only [Bool.false_eq_true, if_false]
  refine W_skip ?_
  simp only [go_sem]
  (repeat refine W_seq ?_); refine W_regionT [] ?_
  simp only [go_sem]
  exact W_ret ⟨.inr rfl, _, rfl, rfl, rfl, _, _, _, rfl, UpdH.refl, r0, hr0, TH.nil, BH.nil⟩
theorem get122_124 {a : AskR} (r0 : RdAt q H ix ([], 0)) (hq : ¬ q ix) (hr0 : H[it]? = some (Block.row ⟨72, 14, AskR.cells ⟨124, a.tag, a.fid, 0, 0, 0, 0, 0, 0, 0, [], [], 0, []⟩ .nilsl .nilsl, false, false⟩)) (hit : it ≠ ix) (hqt : ¬ q it) (hqb : ∀ k, q k → k < H.length) (fit : a.Fit)  : AC Try.prog 122 [.ptr ⟨0, ix, 0⟩, .ptr ⟨0, it, 0⟩] ⟨H, S⟩ (fun v M' => v = .bool true ∧ ∃ H' vn vd, M' = ⟨H', S⟩ ∧ UpdH (fun k => k = ix ∨ k = it) H H' ∧ RdAt q H' ix ([], 0) ∧ H'[it]? = some (Block.row ⟨72, 14, AskR.cells ⟨124, a.tag, a.fid, 0, 0, 0, 0, 0, 0, 0, [], [], 0, []⟩ vn vd, false, false⟩) ∧ TH H' vn [] ∧ BH H' vd []) := by
  refine AC_of_WE Try.func122 rfl ?_
  simp only [Try.ntmps122, List.length_cons, List.length_nil, List.replicate, List.cons_append, List.nil_append, mem_enter]
  have hil := (List.getElem?_eq_some_iff.1 hr0).1
  (repeat refine W_seq ?_); refine W_regionT [] ?_
  simp only [go_sem, boxB, List.nil_append, List.cons_append, List.length_nil, List.length_cons, Nat.zero_add, Nat.reduceAdd]
  (repeat refine W_seq ?_); refine W_regionT [] ?_
  simp only [go_sem]
  (repeat refine W_seq ?_); refine W_regionT [] ?_
  simp only [go_sem]
  (repeat refine W_seq ?_); refine W_regionT [] ?_
  simp only [go_sem, ka0 (get0 hr0), kl0 (get0 hr0)]
  (repeat refine W_seq ?_)
  refine W_block ?_
  (repeat refine W_seq ?_); refine W_regionT [] ?_
  simp only [go_sem]
  (repeat refine W_seq ?_)
  refine W_cond (b := false) rfl ?_
  simp only [Bool.false_eq_true, if_false]
  (repeat refine W_seq ?_); refine W_regionT [] ?_
  simp only [go_sem]
  (repeat refine W_seq ?_)
  refine W_cond (b := false) rfl ?_
  simp only [Bool.false_eq_true, if_false]
  (repeat refine W_seq ?_); refine W_regionT [] ?_
  simp only [go_sem]
  (repeat refine W_seq ?_)
  refine W_cond (b := false) rfl ?_
  simp only [Bool.false_eq_true, if_false]
  (repeat refine W_seq ?_); refine W_regionT [] ?_
  simp only [go_sem]
  (repeat refine W_seq ?_)
  refine W_cond (b := false) rfl ?_
  simp only [Bool.false_eq_true, if_false]
  (repeat refine W_seq ?_); refine W_regionT [] ?_
  simp only [go_sem]
  (repeat refine W_seq ?_)
  refine W_cond (b := false) rfl ?_
  simp only [Bool.false_eq_true, if_false]
  (repeat refine W_seq ?_); refine W_regionT [] ?_
  simp only [go_sem]
  (repeat refine W_seq ?_)
  refine W_cond (b := false) rfl ?_
  simp only [Bool.false_eq_true, if_false]
  (repeat refine W_seq ?_); refine W_regionT [] ?_
  simp only [go_sem]
  (repeat refine W_seq ?_)
  refine W_cond (b := false) rfl ?_
  simp only [Bool.false_eq_true, if_false]
  (repeat refine W_seq ?_); refine W_regionT [] ?_
  simp only [go_sem]
  (repeat refine W_seq ?_)
  refine W_cond (b := false) rfl ?_
  simp only [Bool.false_eq_true, if_false]
  (repeat refine W_seq ?_); refine W_regionT [] ?_
  simp only [go_sem]
  (repeat refine W_seq ?_)
  refine W_cond (b := false) rfl ?_
  simp only [Bool.false_eq_true, if_false]
  refine W_skip ?_
  simp only [go_sem]
  (repeat refine W_seq ?_); refine W_regionT [] ?_
  simp only [go_sem, ka0 (get0 hr0), kl0 (get0 hr0), ka12 (get0 hr0), kl12 (get0 hr0)]
  (repeat refine W_seq ?_)
  refine W_cond (b := false) rfl ?_
  simp only [Bool.false_eq_true, if_false]
  refine W_skip ?_
  simp only [go_sem]
  (repeat refine W_seq ?_); refine W_regionT [] ?_
  simp only [go_sem]
  exact W_ret ⟨.inr rfl, _, rfl, rfl, rfl, _, _, _, rfl, UpdH.refl, r0, hr0, TH.nil, BH.nil⟩
theorem get122_126 {a : AskR} (r0 : RdAt q H ix (le (u32 a.size) 4 ++ (le a.name.length 2 ++ (a.name ++ [])), 0)) (hq : ¬ q ix) (hr0 : H[it]? = some (Block.row ⟨72, 14, AskR.cells ⟨126, a.tag, a.fid, 0, 0, 0, 0, 0, 0, 0, [], [], 0, []⟩ .nilsl .nilsl, false, false⟩)) (hit : it ≠ ix) (hqt : ¬ q it) (hqb : ∀ k, q k → k < H.length) (fit : a.Fit) (h_size : -1 ≤ a.size ∧ a.size ≤ 4294967294) : AC Try.prog 122 [.ptr ⟨0, ix, 0⟩, .ptr ⟨0, it, 0⟩] ⟨H, S⟩ (fun v M' => v = .bool true ∧ ∃ H' vn vd, M' = ⟨H', S⟩ ∧ UpdH (fun k => k = ix ∨ k = it) H H' ∧ RdAt q H' ix ([], 0) ∧ H'[it]? = some (Block.row ⟨72, 14, AskR.cells ⟨126, a.tag, a.fid, 0, 0, 0, 0, 0, 0, 0, a.name, [], a.size, []⟩ vn vd, false, false⟩) ∧ TH H' vn [] ∧ BH H' vd []) := by
  refine AC_of_WE Try.func122 rfl ?_
  simp only [Try.ntmps122, List.length_cons, List.length_nil, List.replicate, List.cons_append, List.nil_append, mem_enter]
  have hil := (List.getElem?_eq_some_iff.1 hr0).1
  obtain ⟨sz, hsz⟩ : ∃ sz : Int, sz = (if a.size = -1 then 4294967295 else a.size) := ⟨_, rfl⟩
  have hsr : 0 ≤ sz ∧ sz ≤ 4294967295 := by rw [hsz]; split <;> omega
  have w_size : IntKind.wrap .i64 sz = sz := wrap_i64 (by omega) (by omega)
  (repeat refine W_seq ?_); refine W_regionT [] ?_
  simp only [go_sem, boxB, List.nil_append, List.cons_append, List.length_nil, List.length_cons, Nat.zero_add, Nat.reduceAdd]
  (repeat refine W_seq ?_); refine W_regionT [] ?_
  simp only [go_sem]
  (repeat refine W_seq ?_); refine W_regionT [] ?_
  simp only [go_sem]
  (repeat refine W_seq ?_); refine W_regionT [] ?_
  simp only [go_sem, ka0 (get0 hr0), kl0 (get0 hr0)]
  (repeat refine W_seq ?_)
  refine W_block ?_
  (repeat refine W_seq ?_); refine W_regionT [] ?_
  simp only [go_sem]
  (repeat refine W_seq ?_)
  refine W_cond (b := false) rfl ?_
  simp only [Bool.false_eq_true, if_false]
  (repeat refine W_seq ?_); refine W_regionT [] ?_
  simp only [go_sem]
  (repeat refine W_seq ?_)
  refine W_cond (b := false) rfl ?_
  simp only [Bool.false_eq_true, if_false]
  (repeat refine W_seq ?_); refine W_regionT [] ?_
  simp only [go_sem]
  (repeat refine W_seq ?_)
  refine W_cond (b := false) rfl ?_
  simp only [Bool.false_eq_true, if_false]
  (repeat refine W_seq ?_); refine W_regionT [] ?_
  simp only [go_sem]
  (repeat refine W_seq ?_)
  refine W_cond (b := false) rfl ?_
  simp only [Bool.false_eq_true, if_false]
  (repeat refine W_seq ?_); refine W_regionT [] ?_
  simp only [go_sem]
  (repeat refine W_seq ?_)
  refine W_cond (b := false) rfl ?_
  simp only [Bool.false_eq_true, if_false]
  (repeat refine W_seq ?_); refine W_regionT [] ?_
  simp only [go_sem]
  (repeat refine W_seq ?_)
  refine W_cond (b := false) rfl ?_
  simp only [Bool.false_eq_true, if_false]
  (repeat refine W_seq ?_); refine W_regionT [] ?_
  simp only [go_sem]
  (repeat refine W_seq ?_)
  refine W_cond (b := false) rfl ?_
  simp only [Bool.false_eq_true, if_false]
  (repeat refine W_seq ?_); refine W_regionT [] ?_
  simp only [go_sem]
  (repeat refine W_seq ?_)
  refine W_cond (b := false) rfl ?_
  simp only [Bool.false_eq_true, if_false]
  (repeat refine W_seq ?_); refine W_regionT [] ?_
  simp only [go_sem]
  (repeat refine W_seq ?_)
  refine W_cond (b := true) rfl ?_
  simp only [if_true]
  (repeat refine W_seq ?_); refine W_regionD [] [3, 5, 8, 11] [0, 1, 2, 4, 3, 5, 6, 7, 8, 9, 10, 11] [0, 0, 0, 4, 0, 28, 61, 125, 253, 511, 1023, 2047] mixedM (by kernel_rfl) (by kernel_rfl) (by kernel_rfl) ?_
  simp only [listed, go_sem, w_size]
  refine AD_read (v := .ptr ⟨0, ix, 0⟩) (fun M' => M'.get (S.length + 1) 0 = some (BOXR ix)) rfl rfl (fun M' h => by show pureV (loadA Try.prog 41 (.ptr ⟨S.length + 1, 0, 0⟩) M') M' = _; rw [ldBG h]; rfl) (gt0) ?_
  simp only [go_sem, w_size]
  refine AD_call rfl rfl rfl (get147 r0 hq) fun v M1 hd1 h1 => ?_
  obtain ⟨hv, G1, rfl, u1, r1⟩ := h1
  rw [(r32s h_size).1] at hv
  rw [(r32s h_size).2] at r1
  rw [← hsz] at hv
  subst hv
  have hr1 := keepR u1 hr0 hit
  refine ⟨⟨fun _ => gt0, trivial⟩, ?_⟩
  simp only [go_sem, ti3, ti5, ti23, ti24, ti29, w_size]
  refine AD_call rfl rfl rfl (readText r1 hq) fun v M1 hd1 h1 => ?_
  obtain ⟨hv, G2, rfl, u2, r2⟩ := h1
  rw [rT fit.n] at hv r2
  subst hv
  have hr2 := keepR u2 hr1 hit
  refine ⟨⟨fun _ => gt0, trivial⟩, ?_⟩
  simp only [go_sem, ti3, ti5, ti23, ti24, ti29, w_size]
  refine AD_read (v := .ptr ⟨0, it, 12⟩) (fun M' => M'.get 0 it = some (Block.row ⟨72, 14, AskR.cells ⟨126, a.tag, a.fid, 0, 0, 0, 0, 0, 0, 0, [], [], 0, []⟩ .nilsl .nilsl, false, false⟩)) rfl rfl (fun M' h => by show pureV (fieldAddrA Try.prog 72 (.ptr ⟨0, it, 0⟩) 12 M') M' = _; rw [ka12 h]; rfl) (get0 hr2) ?_
  simp only [go_sem, w_size]
  refine AD_loud (v := .undef) (M' := ⟨(G2).set it (Block.row ⟨72, 14, AskR.cells ⟨126, a.tag, a.fid, 0, 0, 0, 0, 0, 0, 0, [], [], sz, []⟩ .nilsl .nilsl, false, false⟩), [BOXR ix] :: S⟩) rfl ((ks12 (a := ⟨126, a.tag, a.fid, 0, 0, 0, 0, 0, 0, 0, [], [], 0, []⟩) (get0 hr2)).trans (by rw [mem_set0])) ⟨fun ha => absurd (ha.symm.trans (show ancB _ _ _ _ = true by kernel_rfl)) (by decide), fun ha => absurd (ha.symm.trans (show ancB _ _ _ _ = true by kernel_rfl)) (by decide), trivial⟩ ?_
  obtain ⟨rs22_8, hs22_8, us22_8⟩ := r2.put (b := Block.row ⟨72, 14, AskR.cells ⟨126, a.tag, a.fid, 0, 0, 0, 0, 0, 0, 0, [], [], sz, []⟩ .nilsl .nilsl, false, false⟩) hr2 hit hqt
  simp only [go_sem, w_size]
  refine AD_read (v := .ptr ⟨0, it, 10⟩) (fun M' => M'.get 0 it = some (Block.row ⟨72, 14, AskR.cells ⟨126, a.tag, a.fid, 0, 0, 0, 0, 0, 0, 0, [], [], sz, []⟩ .nilsl .nilsl, false, false⟩)) rfl rfl (fun M' h => by show pureV (fieldAddrA Try.prog 72 (.ptr ⟨0, it, 0⟩) 10 M') M' = _; rw [ka10 h]; rfl) (get0 hs22_8) ?_
  simp only [go_sem, w_size]
  refine AD_loud (v := .undef) (M' := ⟨((G2).set it (Block.row ⟨72, 14, AskR.cells ⟨126, a.tag, a.fid, 0, 0, 0, 0, 0, 0, 0, [], [], sz, []⟩ .nilsl .nilsl, false, false⟩)).set it (Block.row ⟨72, 14, AskR.cells ⟨126, a.tag, a.fid, 0, 0, 0, 0, 0, 0, 0, a.name, [], sz, []⟩ .nilsl .nilsl, false, false⟩), [BOXR ix] :: S⟩) rfl ((ks10 (a := ⟨126, a.tag, a.fid, 0, 0, 0, 0, 0, 0, 0, [], [], sz, []⟩) (get0 hs22_8)).trans (by rw [mem_set0])) ⟨fun ha => absurd (ha.symm.trans (show ancB _ _ _ _ = true by kernel_rfl)) (by decide), fun ha => absurd (ha.symm.trans (show ancB _ _ _ _ = true by kernel_rfl)) (by decide), fun ha => absurd (ha.symm.trans (show ancB _ _ _ _ = true by kernel_rfl)) (by decide), trivial⟩ ?_
  obtain ⟨rs22_11, hs22_11, us22_11⟩ := rs22_8.put (b := Block.row ⟨72, 14, AskR.cells ⟨126, a.tag, a.fid, 0, 0, 0, 0, 0, 0, 0, a.name, [], sz, []⟩ .nilsl .nilsl, false, false⟩) hs22_8 hit hqt
  simp only [go_sem, w_size]
  rcases (show a.size = -1 ∨ ¬ a.size = -1 by omega) with hm | hm
  · have hd : decide (sz = 4294967295) = true := decide_eq_true (by rw [hsz, if_pos hm])
    (repeat refine W_seq ?_); refine W_regionT [] ?_
    simp only [go_sem, ka0 (get0 hs22_11), kl0 (get0 hs22_11), ka12 (get0 hs22_11), kl12 (get0 hs22_11), hd]
    (repeat refine W_seq ?_)
    refine W_cond (b := true) rfl ?_
    simp only [if_true]
    (repeat refine W_seq ?_); refine W_regionT [] ?_
    simp only [go_sem, ka12 (get0 hs22_11), ks12 (a := ⟨126, a.tag, a.fid, 0, 0, 0, 0, 0, 0, 0, a.name, [], sz, []⟩) (get0 hs22_11)]
    obtain ⟨rs24, hs24, us24⟩ := rs22_11.put (b := Block.row ⟨72, 14, AskR.cells ⟨126, a.tag, a.fid, 0, 0, 0, 0, 0, 0, 0, a.name, [], -1, []⟩ .nilsl .nilsl, false, false⟩) hs22_11 hit hqt
    (repeat refine W_seq ?_); refine W_regionT [] ?_
    simp only [go_sem]
    exact W_ret ⟨.inr rfl, _, rfl, rfl, rfl, _, _, _, rfl, (((((UpdH.refl).trans (u1.mono (fun k _ h => .inl h)) (fun k _ h => h) (fun k _ h => h)).trans (u2.mono (fun k _ h => .inl h)) (fun k _ h => h) (fun k _ h => h)).trans (us22_8.mono (fun k _ h => .inr h)) (fun k _ h => h) (fun k _ h => h)).trans (us22_11.mono (fun k _ h => .inr h)) (fun k _ h => h) (fun k _ h => h)).trans (us24.mono (fun k _ h => .inr h)) (fun k _ h => h) (fun k _ h => h), rs24, (by rw [hm]; exact hs24), TH.nil, BH.nil⟩
  · have hz : sz = a.size := by rw [hsz, if_neg hm]
    have hd : decide (sz = 4294967295) = false := decide_eq_false (by omega)
    (repeat refine W_seq ?_); refine W_regionT [] ?_
    simp only [go_sem, ka0 (get0 hs22_11), kl0 (get0 hs22_11), ka12 (get0 hs22_11), kl12 (get0 hs22_11), hd]
    (repeat refine W_seq ?_)
    refine W_cond (b := false) rfl ?_
    simp only [Bool.false_eq_true, if_false]
    refine W_skip ?_
    simp only [go_sem]
    (repeat refine W_seq ?_); refine W_regionT [] ?_
    simp only [go_sem]
    exact W_ret ⟨.inr rfl, _, rfl, rfl, rfl, _, _, _, rfl, ((((UpdH.refl).trans (u1.mono (fun k _ h => .inl h)) (fun k _ h => h) (fun k _ h => h)).trans (u2.mono (fun k _ h => .inl h)) (fun k _ h => h) (fun k _ h => h)).trans (us22_8.mono (fun k _ h => .inr h)) (fun k _ h => h) (fun k _ h => h)).trans (us22_11.mono (fun k _ h => .inr h)) (fun k _ h => h) (fun k _ h => h), rs22_11, (by rw [← hz]; exact hs22_11), TH.nil, BH.nil⟩
end
end Go.Proofs.Ytlpcbfndjffpfaa
