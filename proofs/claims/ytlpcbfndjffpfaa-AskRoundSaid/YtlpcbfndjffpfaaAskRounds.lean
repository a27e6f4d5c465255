/- The walk of ask.Read over a request's own bytes, ask.Tag, and AskRound. -/
import Derived.Test.YtlpcbfndjffpfaaAskGets
set_option maxRecDepth 100000
set_option maxHeartbeats 4000000
set_option linter.unusedSimpArgs false
set_option linter.unusedVariables false
namespace Go.Proofs.Ytlpcbfndjffpfaa
open Go.Abs
theorem kind_known {n : Int} : known (kindOf n) = true := by
  unfold kindOf
  have hr := around_range (n := n) (k := 12) (by decide)
  have h : ∀ i : Fin 12, known (kinds12.getD i.1 0) = true := by decide
  exact h ⟨(around n 12).toNat, by omega⟩
theorem if_if {α : Type} {c : Bool} {x z : α} : (if c = true then (if c = true then x else z) else z) = if c = true then x else z := by cases c <;> rfl
theorem own_own {a : AskR} : a.own.own = a.own := by
  unfold AskR.own
  simp only [if_if]
theorem inB_if {c : Bool} {x lo hi : Int} (h : lo ≤ x ∧ x ≤ hi) (h0 : lo ≤ 0 ∧ 0 ≤ hi) : inB (if c = true then x else 0) lo hi = true := by
  unfold inB; cases c <;> simp <;> omega
theorem good_may {a : AskR} : a.good.may = true := by
  have q1 := around_range (n := a.tag) (k := 65536) (by decide)
  have q2 := around_range (n := a.fid) (k := 4294967296) (by decide)
  have q3 := around_range (n := a.newfid) (k := 4294967296) (by decide)
  have q4 := around_range (n := a.oldtag) (k := 65536) (by decide)
  have q5 := around_range (n := a.msize) (k := 4294967296) (by decide)
  have q6 := around_range (n := a.mode) (k := 256) (by decide)
  have q7 := around_range (n := a.perm) (k := 4294967296) (by decide)
  have q8 := around_range (n := a.off) (k := 4611686018427387905) (by decide)
  have q9 := around_range (n := a.count) (k := 4294967296) (by decide)
  have q10 := around_range (n := a.size) (k := 4294967296) (by decide)
  have e1 : known a.good.ty = true := kind_known (n := a.ty)
  have e2 : decide (a.good = a.good.own) = true := decide_eq_true own_own.symm
  have e3 : inB a.good.tag 0 65535 = true := by
    show inB (around a.tag 65536) 0 65535 = true
    unfold inB; simp; omega
  have e4 : inB a.good.oldtag 0 65535 = true := inB_if (x := around a.oldtag 65536) (by omega) (by decide)
  have e5 : inB a.good.mode 0 255 = true := inB_if (x := around a.mode 256) (by omega) (by decide)
  have e6 : inB a.good.off 0 4611686018427387904 = true := inB_if (x := around a.off 4611686018427387905) (by omega) (by decide)
  have e7 : inB a.good.size (-1) 4294967294 = true := inB_if (x := around a.size 4294967296 - 1) (by omega) (by decide)
  have e8 : inB a.good.fid 0 4294967295 = true := inB_if (x := around a.fid 4294967296) (by omega) (by decide)
  have e9 : inB a.good.newfid 0 4294967295 = true := inB_if (x := around a.newfid 4294967296) (by omega) (by decide)
  have e10 : inB a.good.msize 0 4294967295 = true := inB_if (x := around a.msize 4294967296) (by omega) (by decide)
  have e11 : inB a.good.perm 0 4294967295 = true := inB_if (x := around a.perm 4294967296) (by omega) (by decide)
  have e12 : inB a.good.count 0 4294967295 = true := inB_if (x := around a.count 4294967296) (by omega) (by decide)
  have e13 : decide ((a.good.names.length : Int) ≤ 8) = true := decide_eq_true (by have := good_short (a := a); omega)
  have e14 : decide ((a.good.data.length : Int) ≤ 1024) = true := by
    apply decide_eq_true
    show (((if hasF a.raw.ty 100 = true then a.raw.data else []).length : Nat) : Int) ≤ 1024
    split
    · simp [AskR.raw]; omega
    · simp
  have e15 : ((a.good.name :: a.good.names).any fun s => decide (255 < s.length)) = false := by
    rw [List.any_eq_false]
    intro s hs
    simp only [decide_eq_true_eq]
    rcases List.mem_cons.1 hs with rfl | hs
    · show ¬ 255 < (if hasF a.raw.ty 110 = true then a.raw.name else []).length
      split
      · simp [AskR.raw]; omega
      · simp
    · have hs' : s ∈ (if hasF a.raw.ty 108 = true then a.raw.names else []) := hs
      split at hs'
      · obtain ⟨t, _, rfl⟩ := List.mem_map.1 (show s ∈ (a.names.take 8).map (List.take 40) from hs')
        simp; omega
      · cases hs'
  unfold AskR.may AskR.head AskR.words
  rw [e15]
  simp only [e1, e2, e3, e4, e5, e6, e7, e8, e9, e10, e11, e12, e13, e14, List.all_cons, List.all_nil, Bool.and_true, Bool.not_false]
theorem pack_right {a : AskR} : a.pack = le (7 + a.body.length) 4 ++ (le (u8 a.ty) 1 ++ (le (u16 a.tag) 2 ++ a.body)) := by unfold AskR.pack; simp only [List.append_assoc]
theorem pack_len {a : AskR} : a.pack.length = 7 + a.body.length := by unfold AskR.pack; simp only [List.length_append, le_length]
structure AskR.Lims (a : AskR) : Prop where
  own : a = a.own
  tag : 0 ≤ a.tag ∧ a.tag ≤ 65535
  oldtag : 0 ≤ a.oldtag ∧ a.oldtag ≤ 65535
  mode : 0 ≤ a.mode ∧ a.mode ≤ 255
  off : 0 ≤ a.off ∧ a.off ≤ 4611686018427387904
  size : -1 ≤ a.size ∧ a.size ≤ 4294967294
  fid : 0 ≤ a.fid ∧ a.fid ≤ 4294967295
  newfid : 0 ≤ a.newfid ∧ a.newfid ≤ 4294967295
  msize : 0 ≤ a.msize ∧ a.msize ≤ 4294967295
  perm : 0 ≤ a.perm ∧ a.perm ≤ 4294967295
  count : 0 ≤ a.count ∧ a.count ≤ 4294967295
theorem AskR.lims {a : AskR} (h : a.may = true) : a.Lims := by
  unfold AskR.may AskR.head AskR.words inB at h
  simp only [List.all_cons, List.all_nil, Bool.and_true, Bool.and_eq_true, decide_eq_true_eq] at h
  obtain ⟨⟨⟨⟨⟨⟨⟨⟨⟨⟨_, h1⟩, h2⟩, h3⟩, h4⟩, h5⟩, h6⟩, h7⟩, _⟩, _⟩, _⟩ := h
  exact ⟨h1, h2, h3, h4, h5, h6, h7.1, h7.2.1, h7.2.2.1, h7.2.2.2.1, h7.2.2.2.2⟩
section
variable {H H' : List Block} {S : List (List Block)} {F : List Block} {M' : Mem} {q : Nat → Prop} {ix it : Nat} {s : RS}
theorem st_new {c : List AV} (hst : c.all AV.st = true) (hl : c.length = 14) : stores Try.prog 72 (.ptr ⟨0, H.length, 0⟩) (.agg c) ⟨H ++ [Block.row ⟨72, 14, AskR.cells AskR.z .nilsl .nilsl, false, false⟩], S⟩ = some (.undef, ⟨H ++ [Block.row ⟨72, 14, c, false, false⟩], S⟩) := by
  rw [store_all (a := ⟨0, H.length, 0⟩) (r := ⟨72, 14, AskR.cells AskR.z .nilsl .nilsl, false, false⟩) ti72 (heap_row (List.getElem?_concat_length ..)) rfl rfl rfl rfl rfl hl hst, mem_set0, List.set_append_right _ _ (Nat.le_refl _), Nat.sub_self]; rfl
theorem askRead72 {vb : AV} {a : AskR} (hb : BH H vb a.pack) (hm : a.may = true) : AC Try.prog 72 [vb] ⟨H, S⟩ (fun v M' => ∃ H' vn vd, v = .tup [.agg (a.cells vn vd), .int .i64 0] ∧ M' = ⟨H', S⟩ ∧ UpdH no H H' ∧ TH H' vn a.names ∧ BH H' vd a.data) := by
  refine AC_of_WE Try.func72 rfl ?_
  simp only [Try.ntmps72, List.length_cons, List.length_nil, List.replicate, List.cons_append, List.nil_append, mem_enter]
  have fit := AskR.fit hm
  have hk0 := AskR.known hm
  have L := AskR.lims hm
  have hbl := AskR.body_len fit hk0
  have hty : 0 ≤ a.ty ∧ a.ty ≤ 255 := by omega
  have hsz : ((rNum (le (7 + a.body.length) 4 ++ (le (u8 a.ty) 1 ++ (le (u16 a.tag) 2 ++ a.body)), 0) 4).1 : Int) = ((7 + a.body.length : Nat) : Int) ∧ (rNum (le (7 + a.body.length) 4 ++ (le (u8 a.ty) 1 ++ (le (u16 a.tag) 2 ++ a.body)), 0) 4).2 = (le (u8 a.ty) 1 ++ (le (u16 a.tag) 2 ++ a.body), 0) := by
    rw [rNum_le]; refine ⟨?_, rfl⟩; show (((7 + a.body.length) % 256 ^ 4 : Nat) : Int) = _; omega
  have w1 : IntKind.wrap .i64 ((7 + a.body.length : Nat) : Int) = ((7 + a.body.length : Nat) : Int) := wrap_i64 (by omega) (by omega)
  have w2 : IntKind.wrap .i64 a.ty = a.ty := wrap_i64 (by omega) (by omega)
  have w3 : IntKind.wrap .i64 a.tag = a.tag := by have := L.tag; exact wrap_i64 (by omega) (by omega)
  have w4 : IntKind.wrap .i64 a.fid = a.fid := by have := L.fid; exact wrap_i64 (by omega) (by omega)
  have hlen := hb.len (S := S)
  have c00 := fun b : AskR => cells_st2 b (vn := .nilsl) (vd := .nilsl) rfl rfl
  have h7 : ¬ ((a.pack.length : Nat) : Int) < 7 := by rw [pack_len]; omega
  (repeat refine W_seq ?_); refine W_regionT [] ?_
  simp only [go_sem, kallocL, List.nil_append, List.cons_append, List.length_nil, List.length_cons, Nat.zero_add, Nat.reduceAdd]
  (repeat refine W_seq ?_); refine W_regionT [] ?_
  simp only [go_sem, BH.len hb, decide_eq_false h7]
  (repeat refine W_seq ?_)
  refine W_cond (b := false) rfl ?_
  simp only [Bool.false_eq_true, if_false]
  refine W_skip ?_
  simp only [go_sem]
  (repeat refine W_seq ?_); refine W_regionT [] ?_
  simp only [go_sem]
  refine AT_call rfl rfl (read33 hb (by rw [pack_len]; omega)) fun v M1 hd1 h1 => ?_
  obtain ⟨ix, G1, rfl, rfl, u1, hix, r1⟩ := h1
  rw [pack_right] at r1
  have hqix : ¬ (fun k => H.length ≤ k ∧ k < G1.length ∧ k ≠ ix) ix := fun h => h.2.2 rfl
  have hqb1 : ∀ k, (fun k => H.length ≤ k ∧ k < G1.length ∧ k ≠ ix) k → k < G1.length := fun k h => h.2.1
  have hql : ∀ k, (fun k => H.length ≤ k ∧ k < G1.length ∧ k ≠ ix) k → H.length ≤ k := fun k h => h.1
  generalize (fun k => H.length ≤ k ∧ k < G1.length ∧ k ≠ ix) = q at r1 hqix hqb1 hql
  simp only [go_sem]
  (repeat refine W_seq ?_); refine W_regionT [] ?_
  simp only [go_sem]
  refine AT_call rfl rfl (num38 r1 hqix) fun v M1 hd1 h1 => ?_
  obtain ⟨hv, G2, rfl, u2, r2⟩ := h1
  rw [hsz.1] at hv
  rw [hsz.2] at r2
  subst hv
  simp only [go_sem, ti29, ti3, w1]
  (repeat refine W_seq ?_); refine W_regionT [6] ?_
  simp only [go_sem]
  refine AT_call rfl rfl (num35 r2 hqix) fun v M1 hd1 h1 => ?_
  obtain ⟨hv, G3, rfl, u3, r3⟩ := h1
  rw [(r8 hty).1] at hv
  rw [(r8 hty).2] at r3
  subst hv
  simp only [go_sem, ti5, ti3, w2]
  refine AT_call rfl rfl (num37 r3 hqix) fun v M1 hd1 h1 => ?_
  obtain ⟨hv, G4, rfl, u4, r4⟩ := h1
  rw [(r16 L.tag).1] at hv
  rw [(r16 L.tag).2] at r4
  subst hv
  simp only [go_sem, ti24, ti3, w3, bld2, kallocH, st_new (c := AskR.cells ⟨a.ty, a.tag, 0, 0, 0, 0, 0, 0, 0, 0, [], [], 0, []⟩ .nilsl .nilsl) (c00 _) rfl]
  have hix4 := r4.lt
  have uG : UpdH no H G4 := ⟨by have := u1.l; have := u2.l; have := u3.l; have := u4.l; omega, fun i hi _ => by
    rw [u4.g i (by have := u1.l; have := u2.l; have := u3.l; omega) (by omega), u3.g i (by have := u1.l; have := u2.l; omega) (by omega), u2.g i (by have := u1.l; omega) (by omega), u1.g i hi (fun h => h)]⟩
  have hr5 : (G4 ++ [Block.row ⟨72, 14, AskR.cells ⟨a.ty, a.tag, 0, 0, 0, 0, 0, 0, 0, 0, [], [], 0, []⟩ .nilsl .nilsl, false, false⟩])[G4.length]? = some (Block.row ⟨72, 14, AskR.cells ⟨a.ty, a.tag, 0, 0, 0, 0, 0, 0, 0, 0, [], [], 0, []⟩ .nilsl .nilsl, false, false⟩) := List.getElem?_concat_length ..
  have r5 : RdAt q (G4 ++ [Block.row ⟨72, 14, AskR.cells ⟨a.ty, a.tag, 0, 0, 0, 0, 0, 0, 0, 0, [], [], 0, []⟩ .nilsl .nilsl, false, false⟩]) ix (a.body, 0) := r4.upd (UpdH.push (p := no)) (fun h => h) (fun k hk h => h)
  have uH5 : UpdH no H (G4 ++ [Block.row ⟨72, 14, AskR.cells ⟨a.ty, a.tag, 0, 0, 0, 0, 0, 0, 0, 0, [], [], 0, []⟩ .nilsl .nilsl, false, false⟩]) := uG.then (UpdH.push (p := no)) (fun _ _ h => h)
  obtain ⟨it, hit5⟩ : ∃ it, it = G4.length := ⟨_, rfl⟩
  have hit : it ≠ ix := by omega
  have hiH : H.length ≤ it := by have := uG.l; omega
  have hqt : ¬ q it := fun h => by have := hqb1 it h; have := u2.l; have := u3.l; have := u4.l; omega
  have hqb5 : ∀ k, q k → k < (G4 ++ [Block.row ⟨72, 14, AskR.cells ⟨a.ty, a.tag, 0, 0, 0, 0, 0, 0, 0, 0, [], [], 0, []⟩ .nilsl .nilsl, false, false⟩]).length := fun k h => by have := hqb1 k h; have := u2.l; have := u3.l; have := u4.l; simp; omega
  rw [← hit5] at hr5 ⊢
  generalize G4 ++ [Block.row ⟨72, 14, AskR.cells ⟨a.ty, a.tag, 0, 0, 0, 0, 0, 0, 0, 0, [], [], 0, []⟩ .nilsl .nilsl, false, false⟩] = G5 at hr5 r5 uH5 hqb5 ⊢
  (repeat refine W_seq ?_); refine W_regionT [] ?_
  simp only [go_sem, kL (get0 hr5)]
  refine AT_call rfl rfl (laid96 (a := ⟨a.ty, a.tag, 0, 0, 0, 0, 0, 0, 0, 0, [], [], 0, []⟩) ⟨.nilsl, .nilsl, rfl, TH.nil, BH.nil⟩) fun v M1 hd1 h1 => ?_
  obtain ⟨⟨bl, wn, wd, hv, _, hwn, hwd⟩, hM⟩ := h1; subst hv; subst hM
  have cb := cells_st2 bl hwn.one.1 hwd.one.1
  have hkn : known a.ty = true := by
    rcases hk0 with h | h | h | h | h | h | h | h | h | h | h | h
    · exact known100 h
    · exact known104 h
    · exact known108 h
    · exact known110 h
    · exact known112 h
    · exact known114 h
    · exact known116 h
    · exact known118 h
    · exact known120 h
    · exact known122 h
    · exact known124 h
    · exact known126 h
  simp only [go_sem, kallocL, kS_1 cb, hkn, List.nil_append, List.cons_append, List.length_nil, List.length_cons, Nat.zero_add, Nat.reduceAdd]
  have hpl : ((a.pack.length : Nat) : Int) = ((7 + a.body.length : Nat) : Int) := by rw [pack_len]
  (repeat refine W_seq ?_); refine W_regionT [] ?_
  simp only [go_sem, Bool.not_true, Bool.not_false, (hb.new uH5).len, hpl, decide_true]
  (repeat refine W_seq ?_)
  refine W_cond (b := false) rfl ?_
  simp only [Bool.false_eq_true, if_false]
  refine W_skip ?_
  simp only [go_sem]
  rcases hk0 with hk | hk | hk | hk | hk | hk | hk | hk | hk | hk | hk | hk
  · have hbK : a.body = le (u32 a.msize) 4 ++ (le a.name.length 2 ++ (a.name ++ [])) := by rw [body100 hk]; simp [List.append_assoc]
    rw [hbK] at r5
    rw [hk] at hr5
    have ne108 : ¬ (100 : Int) = 108 := by decide
    (repeat refine W_seq ?_); refine W_regionT [] ?_
    simp only [go_sem, ka0 (get0 hr5), kl0 (get0 hr5), decide_eq_false ne108, Bool.not_false, Bool.not_true, decide_true]
    (repeat refine W_seq ?_)
    refine W_cond (b := false) rfl ?_
    simp only [Bool.false_eq_true, if_false]
    refine W_skip ?_
    simp only [go_sem]
    (repeat refine W_seq ?_); refine W_regionT [] ?_
    simp only [go_sem]
    refine AT_call rfl rfl (get122_100 (a := a) r5 hqix hr5 hit hqt (fun k hk2 => by have h9 := hqb5 k hk2; exact h9) fit L.msize) fun v M1 hd1 h1 => ?_
    obtain ⟨hv, G8, vn, vd, rfl, u8, r8_, hr8, tn, td⟩ := h1; subst hv
    have hrec : (⟨100, a.tag, 0, 0, 0, a.msize, 0, 0, 0, 0, a.name, [], 0, []⟩ : AskR) = a := by
      have h := L.own
      rw [own100 hk] at h
      rw [hk] at h
      exact h.symm
    have uu : UpdH (fun k => k = ix ∨ k = it) G5 G8 := u8
    have uH8 : UpdH no H G8 := uH5.trans uu (fun i _ h => h.elim) (fun i hi h => by rcases h with h | h <;> omega)
    rw [hrec] at hr8
    have tn8 : TH G8 vn a.names := by rw [← congrArg AskR.names hrec]; exact tn
    have td8 : BH G8 vd a.data := by rw [← congrArg AskR.data hrec]; exact td
    have cst := cells_st tn8 td8 (a := a)
    simp only [go_sem, Bool.not_true]
    (repeat refine W_seq ?_)
    refine W_cond (b := false) rfl ?_
    simp only [Bool.false_eq_true, if_false]
    refine W_skip ?_
    simp only [go_sem]
    (repeat refine W_seq ?_); refine W_regionT [] ?_
    simp only [go_sem]
    refine AT_call rfl rfl (end45 r8_) fun v M1 hd1 h1 => ?_
    obtain ⟨hv, hM⟩ := h1; subst hM
    rw [show rEnd ([], 0) = 0 from rfl] at hv; subst hv
    simp only [go_sem]
    (repeat refine W_seq ?_); refine W_regionT [] ?_
    simp only [go_sem]
    (repeat refine W_seq ?_)
    refine W_cond (b := false) rfl ?_
    simp only [Bool.false_eq_true, if_false]
    refine W_skip ?_
    simp only [go_sem]
    (repeat refine W_seq ?_); refine W_regionT [] ?_
    simp only [go_sem, kL (get0 hr8)]
    refine AT_call rfl rfl (may55 (a := a) ⟨vn, vd, rfl, tn8, td8⟩ (by have := fit.l; omega)) fun v M1 hd1 h1 => ?_
    obtain ⟨hv, G9, rfl, u9⟩ := h1; rw [hm] at hv; subst hv
    have hr9 := u9.get hr8 (fun h => h)
    simp only [go_sem, Bool.not_true]
    (repeat refine W_seq ?_)
    refine W_cond (b := false) rfl ?_
    simp only [Bool.false_eq_true, if_false]
    refine W_skip ?_
    simp only [go_sem]
    (repeat refine W_seq ?_); refine W_regionT [] ?_
    simp only [go_sem, kL (get0 hr9), kS_0 cst]
    refine W_ret ⟨.inr rfl, [.agg (a.cells vn vd), .int .i64 0], ?_, ?_, _, _, _, rfl, rfl, uH8.then u9 (fun _ _ h => h), tn8.new u9, td8.new u9⟩
    · show (match loadA Try.prog 72 (.ptr ⟨S.length + 1, 0, 0⟩) _, resE Try.prog _ _ [.tmp 3] with | some v, some vs => some (v :: vs) | _, _ => none) = _
      rw [kL_0]; rfl
    · show lev0s [AV.agg _, .int .i64 0] = true
      have e : lev0s (AskR.cells a vn vd) = true := cells_lev tn8.lev0' td8.lev0'
      simp only [lev0s, AV.lev0, e, Bool.and_true]
  · have hbK : a.body = le (u32 a.fid) 4 ++ (le a.name.length 2 ++ (a.name ++ [])) := by rw [body104 hk]; simp [List.append_assoc]
    rw [hbK] at r5
    rw [hk] at hr5
    have ne100 : ¬ (104 : Int) = 100 := by decide
    have ne108 : ¬ (104 : Int) = 108 := by decide
    (repeat refine W_seq ?_); refine W_regionT [] ?_
    simp only [go_sem, ka0 (get0 hr5), kl0 (get0 hr5), decide_eq_false ne100, decide_eq_false ne108, Bool.not_false, Bool.not_true, decide_true]
    (repeat refine W_seq ?_)
    refine W_cond (b := true) rfl ?_
    simp only [if_true]
    (repeat refine W_seq ?_); refine W_regionT [] ?_
    simp only [go_sem]
    refine AT_call rfl rfl (num38 r5 hqix) fun v M1 hd1 h1 => ?_
    obtain ⟨hv, G6, rfl, u6, r6⟩ := h1
    rw [(r32 L.fid).1] at hv
    rw [(r32 L.fid).2] at r6
    subst hv
    have hr6 := keepR u6 hr5 hit
    obtain ⟨rs6, hs6, us6⟩ := r6.put (b := Block.row ⟨72, 14, AskR.cells ⟨104, a.tag, a.fid, 0, 0, 0, 0, 0, 0, 0, [], [], 0, []⟩ .nilsl .nilsl, false, false⟩) hr6 hit hqt
    simp only [go_sem, ti29, ti3, w4, ka2 (get0 hr6), ks2 (a := ⟨104, a.tag, 0, 0, 0, 0, 0, 0, 0, 0, [], [], 0, []⟩) (get0 hr6)]
    (repeat refine W_seq ?_); refine W_regionT [] ?_
    simp only [go_sem]
    refine AT_call rfl rfl (get122_104 (a := a) rs6 hqix hs6 hit hqt (fun k hk2 => by have h9 := hqb5 k hk2; have := u6.l; simp; omega) fit ) fun v M1 hd1 h1 => ?_
    obtain ⟨hv, G8, vn, vd, rfl, u8, r8_, hr8, tn, td⟩ := h1; subst hv
    have hrec : (⟨104, a.tag, a.fid, 0, 0, 0, 0, 0, 0, 0, a.name, [], 0, []⟩ : AskR) = a := by
      have h := L.own
      rw [own104 hk] at h
      rw [hk] at h
      exact h.symm
    have uu : UpdH (fun k => k = ix ∨ k = it) G5 G8 := ((u6.mono (fun k _ h => .inl h)).trans (us6.mono (fun k _ h => .inr h)) (fun k _ h => h) (fun k _ h => h)).trans u8 (fun k _ h => h) (fun k _ h => h)
    have uH8 : UpdH no H G8 := uH5.trans uu (fun i _ h => h.elim) (fun i hi h => by rcases h with h | h <;> omega)
    rw [hrec] at hr8
    have tn8 : TH G8 vn a.names := by rw [← congrArg AskR.names hrec]; exact tn
    have td8 : BH G8 vd a.data := by rw [← congrArg AskR.data hrec]; exact td
    have cst := cells_st tn8 td8 (a := a)
    simp only [go_sem, Bool.not_true]
    (repeat refine W_seq ?_)
    refine W_cond (b := false) rfl ?_
    simp only [Bool.false_eq_true, if_false]
    refine W_skip ?_
    simp only [go_sem]
    (repeat refine W_seq ?_); refine W_regionT [] ?_
    simp only [go_sem]
    refine AT_call rfl rfl (end45 r8_) fun v M1 hd1 h1 => ?_
    obtain ⟨hv, hM⟩ := h1; subst hM
    rw [show rEnd ([], 0) = 0 from rfl] at hv; subst hv
    simp only [go_sem]
    (repeat refine W_seq ?_); refine W_regionT [] ?_
    simp only [go_sem]
    (repeat refine W_seq ?_)
    refine W_cond (b := false) rfl ?_
    simp only [Bool.false_eq_true, if_false]
    refine W_skip ?_
    simp only [go_sem]
    (repeat refine W_seq ?_); refine W_regionT [] ?_
    simp only [go_sem, kL (get0 hr8)]
    refine AT_call rfl rfl (may55 (a := a) ⟨vn, vd, rfl, tn8, td8⟩ (by have := fit.l; omega)) fun v M1 hd1 h1 => ?_
    obtain ⟨hv, G9, rfl, u9⟩ := h1; rw [hm] at hv; subst hv
    have hr9 := u9.get hr8 (fun h => h)
    simp only [go_sem, Bool.not_true]
    (repeat refine W_seq ?_)
    refine W_cond (b := false) rfl ?_
    simp only [Bool.false_eq_true, if_false]
    refine W_skip ?_
    simp only [go_sem]
    (repeat refine W_seq ?_); refine W_regionT [] ?_
    simp only [go_sem, kL (get0 hr9), kS_0 cst]
    refine W_ret ⟨.inr rfl, [.agg (a.cells vn vd), .int .i64 0], ?_, ?_, _, _, _, rfl, rfl, uH8.then u9 (fun _ _ h => h), tn8.new u9, td8.new u9⟩
    · show (match loadA Try.prog 72 (.ptr ⟨S.length + 1, 0, 0⟩) _, resE Try.prog _ _ [.tmp 3] with | some v, some vs => some (v :: vs) | _, _ => none) = _
      rw [kL_0]; rfl
    · show lev0s [AV.agg _, .int .i64 0] = true
      have e : lev0s (AskR.cells a vn vd) = true := cells_lev tn8.lev0' td8.lev0'
      simp only [lev0s, AV.lev0, e, Bool.and_true]
  · have hbK : a.body = le (u16 a.oldtag) 2 ++ ([]) := by rw [body108 hk]; simp [List.append_assoc]
    rw [hbK] at r5
    rw [hk] at hr5
    have ne100 : ¬ (108 : Int) = 100 := by decide
    (repeat refine W_seq ?_); refine W_regionT [] ?_
    simp only [go_sem, ka0 (get0 hr5), kl0 (get0 hr5), decide_eq_false ne100, Bool.not_false, Bool.not_true, decide_true]
    (repeat refine W_seq ?_)
    refine W_cond (b := false) rfl ?_
    simp only [Bool.false_eq_true, if_false]
    refine W_skip ?_
    simp only [go_sem]
    (repeat refine W_seq ?_); refine W_regionT [] ?_
    simp only [go_sem]
    refine AT_call rfl rfl (get122_108 (a := a) r5 hqix hr5 hit hqt (fun k hk2 => by have h9 := hqb5 k hk2; exact h9) fit L.oldtag) fun v M1 hd1 h1 => ?_
    obtain ⟨hv, G8, vn, vd, rfl, u8, r8_, hr8, tn, td⟩ := h1; subst hv
    have hrec : (⟨108, a.tag, 0, 0, a.oldtag, 0, 0, 0, 0, 0, [], [], 0, []⟩ : AskR) = a := by
      have h := L.own
      rw [own108 hk] at h
      rw [hk] at h
      exact h.symm
    have uu : UpdH (fun k => k = ix ∨ k = it) G5 G8 := u8
    have uH8 : UpdH no H G8 := uH5.trans uu (fun i _ h => h.elim) (fun i hi h => by rcases h with h | h <;> omega)
    rw [hrec] at hr8
    have tn8 : TH G8 vn a.names := by rw [← congrArg AskR.names hrec]; exact tn
    have td8 : BH G8 vd a.data := by rw [← congrArg AskR.data hrec]; exact td
    have cst := cells_st tn8 td8 (a := a)
    simp only [go_sem, Bool.not_true]
    (repeat refine W_seq ?_)
    refine W_cond (b := false) rfl ?_
    simp only [Bool.false_eq_true, if_false]
    refine W_skip ?_
    simp only [go_sem]
    (repeat refine W_seq ?_); refine W_regionT [] ?_
    simp only [go_sem]
    refine AT_call rfl rfl (end45 r8_) fun v M1 hd1 h1 => ?_
    obtain ⟨hv, hM⟩ := h1; subst hM
    rw [show rEnd ([], 0) = 0 from rfl] at hv; subst hv
    simp only [go_sem]
    (repeat refine W_seq ?_); refine W_regionT [] ?_
    simp only [go_sem]
    (repeat refine W_seq ?_)
    refine W_cond (b := false) rfl ?_
    simp only [Bool.false_eq_true, if_false]
    refine W_skip ?_
    simp only [go_sem]
    (repeat refine W_seq ?_); refine W_regionT [] ?_
    simp only [go_sem, kL (get0 hr8)]
    refine AT_call rfl rfl (may55 (a := a) ⟨vn, vd, rfl, tn8, td8⟩ (by have := fit.l; omega)) fun v M1 hd1 h1 => ?_
    obtain ⟨hv, G9, rfl, u9⟩ := h1; rw [hm] at hv; subst hv
    have hr9 := u9.get hr8 (fun h => h)
    simp only [go_sem, Bool.not_true]
    (repeat refine W_seq ?_)
    refine W_cond (b := false) rfl ?_
    simp only [Bool.false_eq_true, if_false]
    refine W_skip ?_
    simp only [go_sem]
    (repeat refine W_seq ?_); refine W_regionT [] ?_
    simp only [go_sem, kL (get0 hr9), kS_0 cst]
    refine W_ret ⟨.inr rfl, [.agg (a.cells vn vd), .int .i64 0], ?_, ?_, _, _, _, rfl, rfl, uH8.then u9 (fun _ _ h => h), tn8.new u9, td8.new u9⟩
    · show (match loadA Try.prog 72 (.ptr ⟨S.length + 1, 0, 0⟩) _, resE Try.prog _ _ [.tmp 3] with | some v, some vs => some (v :: vs) | _, _ => none) = _
      rw [kL_0]; rfl
    · show lev0s [AV.agg _, .int .i64 0] = true
      have e : lev0s (AskR.cells a vn vd) = true := cells_lev tn8.lev0' td8.lev0'
      simp only [lev0s, AV.lev0, e, Bool.and_true]
  · have hbK : a.body = le (u32 a.fid) 4 ++ (le (u32 a.newfid) 4 ++ (le (u16 a.names.length) 2 ++ textsOf a.names)) := by rw [body110 hk]; simp [List.append_assoc]
    rw [hbK] at r5
    rw [hk] at hr5
    have ne100 : ¬ (110 : Int) = 100 := by decide
    have ne108 : ¬ (110 : Int) = 108 := by decide
    (repeat refine W_seq ?_); refine W_regionT [] ?_
    simp only [go_sem, ka0 (get0 hr5), kl0 (get0 hr5), decide_eq_false ne100, decide_eq_false ne108, Bool.not_false, Bool.not_true, decide_true]
    (repeat refine W_seq ?_)
    refine W_cond (b := true) rfl ?_
    simp only [if_true]
    (repeat refine W_seq ?_); refine W_regionT [] ?_
    simp only [go_sem]
    refine AT_call rfl rfl (num38 r5 hqix) fun v M1 hd1 h1 => ?_
    obtain ⟨hv, G6, rfl, u6, r6⟩ := h1
    rw [(r32 L.fid).1] at hv
    rw [(r32 L.fid).2] at r6
    subst hv
    have hr6 := keepR u6 hr5 hit
    obtain ⟨rs6, hs6, us6⟩ := r6.put (b := Block.row ⟨72, 14, AskR.cells ⟨110, a.tag, a.fid, 0, 0, 0, 0, 0, 0, 0, [], [], 0, []⟩ .nilsl .nilsl, false, false⟩) hr6 hit hqt
    simp only [go_sem, ti29, ti3, w4, ka2 (get0 hr6), ks2 (a := ⟨110, a.tag, 0, 0, 0, 0, 0, 0, 0, 0, [], [], 0, []⟩) (get0 hr6)]
    (repeat refine W_seq ?_); refine W_regionT [] ?_
    simp only [go_sem]
    refine AT_call rfl rfl (get122_110 (a := a) rs6 hqix hs6 hit hqt (fun k hk2 => by have h9 := hqb5 k hk2; have := u6.l; simp; omega) fit L.newfid) fun v M1 hd1 h1 => ?_
    obtain ⟨hv, G8, vn, vd, rfl, u8, r8_, hr8, tn, td⟩ := h1; subst hv
    have hrec : (⟨110, a.tag, a.fid, a.newfid, 0, 0, 0, 0, 0, 0, [], a.names, 0, []⟩ : AskR) = a := by
      have h := L.own
      rw [own110 hk] at h
      rw [hk] at h
      exact h.symm
    have uu : UpdH (fun k => k = ix ∨ k = it) G5 G8 := ((u6.mono (fun k _ h => .inl h)).trans (us6.mono (fun k _ h => .inr h)) (fun k _ h => h) (fun k _ h => h)).trans u8 (fun k _ h => h) (fun k _ h => h)
    have uH8 : UpdH no H G8 := uH5.trans uu (fun i _ h => h.elim) (fun i hi h => by rcases h with h | h <;> omega)
    rw [hrec] at hr8
    have tn8 : TH G8 vn a.names := by rw [← congrArg AskR.names hrec]; exact tn
    have td8 : BH G8 vd a.data := by rw [← congrArg AskR.data hrec]; exact td
    have cst := cells_st tn8 td8 (a := a)
    simp only [go_sem, Bool.not_true]
    (repeat refine W_seq ?_)
    refine W_cond (b := false) rfl ?_
    simp only [Bool.false_eq_true, if_false]
    refine W_skip ?_
    simp only [go_sem]
    (repeat refine W_seq ?_); refine W_regionT [] ?_
    simp only [go_sem]
    refine AT_call rfl rfl (end45 r8_) fun v M1 hd1 h1 => ?_
    obtain ⟨hv, hM⟩ := h1; subst hM
    rw [show rEnd ([], 0) = 0 from rfl] at hv; subst hv
    simp only [go_sem]
    (repeat refine W_seq ?_); refine W_regionT [] ?_
    simp only [go_sem]
    (repeat refine W_seq ?_)
    refine W_cond (b := false) rfl ?_
    simp only [Bool.false_eq_true, if_false]
    refine W_skip ?_
    simp only [go_sem]
    (repeat refine W_seq ?_); refine W_regionT [] ?_
    simp only [go_sem, kL (get0 hr8)]
    refine AT_call rfl rfl (may55 (a := a) ⟨vn, vd, rfl, tn8, td8⟩ (by have := fit.l; omega)) fun v M1 hd1 h1 => ?_
    obtain ⟨hv, G9, rfl, u9⟩ := h1; rw [hm] at hv; subst hv
    have hr9 := u9.get hr8 (fun h => h)
    simp only [go_sem, Bool.not_true]
    (repeat refine W_seq ?_)
    refine W_cond (b := false) rfl ?_
    simp only [Bool.false_eq_true, if_false]
    refine W_skip ?_
    simp only [go_sem]
    (repeat refine W_seq ?_); refine W_regionT [] ?_
    simp only [go_sem, kL (get0 hr9), kS_0 cst]
    refine W_ret ⟨.inr rfl, [.agg (a.cells vn vd), .int .i64 0], ?_, ?_, _, _, _, rfl, rfl, uH8.then u9 (fun _ _ h => h), tn8.new u9, td8.new u9⟩
    · show (match loadA Try.prog 72 (.ptr ⟨S.length + 1, 0, 0⟩) _, resE Try.prog _ _ [.tmp 3] with | some v, some vs => some (v :: vs) | _, _ => none) = _
      rw [kL_0]; rfl
    · show lev0s [AV.agg _, .int .i64 0] = true
      have e : lev0s (AskR.cells a vn vd) = true := cells_lev tn8.lev0' td8.lev0'
      simp only [lev0s, AV.lev0, e, Bool.and_true]
  · have hbK : a.body = le (u32 a.fid) 4 ++ (le (u8 a.mode) 1 ++ ([])) := by rw [body112 hk]; simp [List.append_assoc]
    rw [hbK] at r5
    rw [hk] at hr5
    have ne100 : ¬ (112 : Int) = 100 := by decide
    have ne108 : ¬ (112 : Int) = 108 := by decide
    (repeat refine W_seq ?_); refine W_regionT [] ?_
    simp only [go_sem, ka0 (get0 hr5), kl0 (get0 hr5), decide_eq_false ne100, decide_eq_false ne108, Bool.not_false, Bool.not_true, decide_true]
    (repeat refine W_seq ?_)
    refine W_cond (b := true) rfl ?_
    simp only [if_true]
    (repeat refine W_seq ?_); refine W_regionT [] ?_
    simp only [go_sem]
    refine AT_call rfl rfl (num38 r5 hqix) fun v M1 hd1 h1 => ?_
    obtain ⟨hv, G6, rfl, u6, r6⟩ := h1
    rw [(r32 L.fid).1] at hv
    rw [(r32 L.fid).2] at r6
    subst hv
    have hr6 := keepR u6 hr5 hit
    obtain ⟨rs6, hs6, us6⟩ := r6.put (b := Block.row ⟨72, 14, AskR.cells ⟨112, a.tag, a.fid, 0, 0, 0, 0, 0, 0, 0, [], [], 0, []⟩ .nilsl .nilsl, false, false⟩) hr6 hit hqt
    simp only [go_sem, ti29, ti3, w4, ka2 (get0 hr6), ks2 (a := ⟨112, a.tag, 0, 0, 0, 0, 0, 0, 0, 0, [], [], 0, []⟩) (get0 hr6)]
    (repeat refine W_seq ?_); refine W_regionT [] ?_
    simp only [go_sem]
    refine AT_call rfl rfl (get122_112 (a := a) rs6 hqix hs6 hit hqt (fun k hk2 => by have h9 := hqb5 k hk2; have := u6.l; simp; omega) fit L.mode) fun v M1 hd1 h1 => ?_
    obtain ⟨hv, G8, vn, vd, rfl, u8, r8_, hr8, tn, td⟩ := h1; subst hv
    have hrec : (⟨112, a.tag, a.fid, 0, 0, 0, a.mode, 0, 0, 0, [], [], 0, []⟩ : AskR) = a := by
      have h := L.own
      rw [own112 hk] at h
      rw [hk] at h
      exact h.symm
    have uu : UpdH (fun k => k = ix ∨ k = it) G5 G8 := ((u6.mono (fun k _ h => .inl h)).trans (us6.mono (fun k _ h => .inr h)) (fun k _ h => h) (fun k _ h => h)).trans u8 (fun k _ h => h) (fun k _ h => h)
    have uH8 : UpdH no H G8 := uH5.trans uu (fun i _ h => h.elim) (fun i hi h => by rcases h with h | h <;> omega)
    rw [hrec] at hr8
    have tn8 : TH G8 vn a.names := by rw [← congrArg AskR.names hrec]; exact tn
    have td8 : BH G8 vd a.data := by rw [← congrArg AskR.data hrec]; exact td
    have cst := cells_st tn8 td8 (a := a)
    simp only [go_sem, Bool.not_true]
    (repeat refine W_seq ?_)
    refine W_cond (b := false) rfl ?_
    simp only [Bool.false_eq_true, if_false]
    refine W_skip ?_
    simp only [go_sem]
    (repeat refine W_seq ?_); refine W_regionT [] ?_
    simp only [go_sem]
    refine AT_call rfl rfl (end45 r8_) fun v M1 hd1 h1 => ?_
    obtain ⟨hv, hM⟩ := h1; subst hM
    rw [show rEnd ([], 0) = 0 from rfl] at hv; subst hv
    simp only [go_sem]
    (repeat refine W_seq ?_); refine W_regionT [] ?_
    simp only [go_sem]
    (repeat refine W_seq ?_)
    refine W_cond (b := false) rfl ?_
    simp only [Bool.false_eq_true, if_false]
    refine W_skip ?_
    simp only [go_sem]
    (repeat refine W_seq ?_); refine W_regionT [] ?_
    simp only [go_sem, kL (get0 hr8)]
    refine AT_call rfl rfl (may55 (a := a) ⟨vn, vd, rfl, tn8, td8⟩ (by have := fit.l; omega)) fun v M1 hd1 h1 => ?_
    obtain ⟨hv, G9, rfl, u9⟩ := h1; rw [hm] at hv; subst hv
    have hr9 := u9.get hr8 (fun h => h)
    simp only [go_sem, Bool.not_true]
    (repeat refine W_seq ?_)
    refine W_cond (b := false) rfl ?_
    simp only [Bool.false_eq_true, if_false]
    refine W_skip ?_
    simp only [go_sem]
    (repeat refine W_seq ?_); refine W_regionT [] ?_
    simp only [go_sem, kL (get0 hr9), kS_0 cst]
    refine W_ret ⟨.inr rfl, [.agg (a.cells vn vd), .int .i64 0], ?_, ?_, _, _, _, rfl, rfl, uH8.then u9 (fun _ _ h => h), tn8.new u9, td8.new u9⟩
    · show (match loadA Try.prog 72 (.ptr ⟨S.length + 1, 0, 0⟩) _, resE Try.prog _ _ [.tmp 3] with | some v, some vs => some (v :: vs) | _, _ => none) = _
      rw [kL_0]; rfl
    · show lev0s [AV.agg _, .int .i64 0] = true
      have e : lev0s (AskR.cells a vn vd) = true := cells_lev tn8.lev0' td8.lev0'
      simp only [lev0s, AV.lev0, e, Bool.and_true]
  · have hbK : a.body = le (u32 a.fid) 4 ++ (le a.name.length 2 ++ (a.name ++ (le (u32 a.perm) 4 ++ (le (u8 a.mode) 1 ++ ([]))))) := by rw [body114 hk]; simp [List.append_assoc]
    rw [hbK] at r5
    rw [hk] at hr5
    have ne100 : ¬ (114 : Int) = 100 := by decide
    have ne108 : ¬ (114 : Int) = 108 := by decide
    (repeat refine W_seq ?_); refine W_regionT [] ?_
    simp only [go_sem, ka0 (get0 hr5), kl0 (get0 hr5), decide_eq_false ne100, decide_eq_false ne108, Bool.not_false, Bool.not_true, decide_true]
    (repeat refine W_seq ?_)
    refine W_cond (b := true) rfl ?_
    simp only [if_true]
    (repeat refine W_seq ?_); refine W_regionT [] ?_
    simp only [go_sem]
    refine AT_call rfl rfl (num38 r5 hqix) fun v M1 hd1 h1 => ?_
    obtain ⟨hv, G6, rfl, u6, r6⟩ := h1
    rw [(r32 L.fid).1] at hv
    rw [(r32 L.fid).2] at r6
    subst hv
    have hr6 := keepR u6 hr5 hit
    obtain ⟨rs6, hs6, us6⟩ := r6.put (b := Block.row ⟨72, 14, AskR.cells ⟨114, a.tag, a.fid, 0, 0, 0, 0, 0, 0, 0, [], [], 0, []⟩ .nilsl .nilsl, false, false⟩) hr6 hit hqt
    simp only [go_sem, ti29, ti3, w4, ka2 (get0 hr6), ks2 (a := ⟨114, a.tag, 0, 0, 0, 0, 0, 0, 0, 0, [], [], 0, []⟩) (get0 hr6)]
    (repeat refine W_seq ?_); refine W_regionT [] ?_
    simp only [go_sem]
    refine AT_call rfl rfl (get122_114 (a := a) rs6 hqix hs6 hit hqt (fun k hk2 => by have h9 := hqb5 k hk2; have := u6.l; simp; omega) fit L.perm L.mode) fun v M1 hd1 h1 => ?_
    obtain ⟨hv, G8, vn, vd, rfl, u8, r8_, hr8, tn, td⟩ := h1; subst hv
    have hrec : (⟨114, a.tag, a.fid, 0, 0, 0, a.mode, a.perm, 0, 0, a.name, [], 0, []⟩ : AskR) = a := by
      have h := L.own
      rw [own114 hk] at h
      rw [hk] at h
      exact h.symm
    have uu : UpdH (fun k => k = ix ∨ k = it) G5 G8 := ((u6.mono (fun k _ h => .inl h)).trans (us6.mono (fun k _ h => .inr h)) (fun k _ h => h) (fun k _ h => h)).trans u8 (fun k _ h => h) (fun k _ h => h)
    have uH8 : UpdH no H G8 := uH5.trans uu (fun i _ h => h.elim) (fun i hi h => by rcases h with h | h <;> omega)
    rw [hrec] at hr8
    have tn8 : TH G8 vn a.names := by rw [← congrArg AskR.names hrec]; exact tn
    have td8 : BH G8 vd a.data := by rw [← congrArg AskR.data hrec]; exact td
    have cst := cells_st tn8 td8 (a := a)
    simp only [go_sem, Bool.not_true]
    (repeat refine W_seq ?_)
    refine W_cond (b := false) rfl ?_
    simp only [Bool.false_eq_true, if_false]
    refine W_skip ?_
    simp only [go_sem]
    (repeat refine W_seq ?_); refine W_regionT [] ?_
    simp only [go_sem]
    refine AT_call rfl rfl (end45 r8_) fun v M1 hd1 h1 => ?_
    obtain ⟨hv, hM⟩ := h1; subst hM
    rw [show rEnd ([], 0) = 0 from rfl] at hv; subst hv
    simp only [go_sem]
    (repeat refine W_seq ?_); refine W_regionT [] ?_
    simp only [go_sem]
    (repeat refine W_seq ?_)
    refine W_cond (b := false) rfl ?_
    simp only [Bool.false_eq_true, if_false]
    refine W_skip ?_
    simp only [go_sem]
    (repeat refine W_seq ?_); refine W_regionT [] ?_
    simp only [go_sem, kL (get0 hr8)]
    refine AT_call rfl rfl (may55 (a := a) ⟨vn, vd, rfl, tn8, td8⟩ (by have := fit.l; omega)) fun v M1 hd1 h1 => ?_
    obtain ⟨hv, G9, rfl, u9⟩ := h1; rw [hm] at hv; subst hv
    have hr9 := u9.get hr8 (fun h => h)
    simp only [go_sem, Bool.not_true]
    (repeat refine W_seq ?_)
    refine W_cond (b := false) rfl ?_
    simp only [Bool.false_eq_true, if_false]
    refine W_skip ?_
    simp only [go_sem]
    (repeat refine W_seq ?_); refine W_regionT [] ?_
    simp only [go_sem, kL (get0 hr9), kS_0 cst]
    refine W_ret ⟨.inr rfl, [.agg (a.cells vn vd), .int .i64 0], ?_, ?_, _, _, _, rfl, rfl, uH8.then u9 (fun _ _ h => h), tn8.new u9, td8.new u9⟩
    · show (match loadA Try.prog 72 (.ptr ⟨S.length + 1, 0, 0⟩) _, resE Try.prog _ _ [.tmp 3] with | some v, some vs => some (v :: vs) | _, _ => none) = _
      rw [kL_0]; rfl
    · show lev0s [AV.agg _, .int .i64 0] = true
      have e : lev0s (AskR.cells a vn vd) = true := cells_lev tn8.lev0' td8.lev0'
      simp only [lev0s, AV.lev0, e, Bool.and_true]
  · have hbK : a.body = le (u32 a.fid) 4 ++ (le (u64 a.off) 8 ++ (le (u32 a.count) 4 ++ ([]))) := by rw [body116 hk]; simp [List.append_assoc]
    rw [hbK] at r5
    rw [hk] at hr5
    have ne100 : ¬ (116 : Int) = 100 := by decide
    have ne108 : ¬ (116 : Int) = 108 := by decide
    (repeat refine W_seq ?_); refine W_regionT [] ?_
    simp only [go_sem, ka0 (get0 hr5), kl0 (get0 hr5), decide_eq_false ne100, decide_eq_false ne108, Bool.not_false, Bool.not_true, decide_true]
    (repeat refine W_seq ?_)
    refine W_cond (b := true) rfl ?_
    simp only [if_true]
    (repeat refine W_seq ?_); refine W_regionT [] ?_
    simp only [go_sem]
    refine AT_call rfl rfl (num38 r5 hqix) fun v M1 hd1 h1 => ?_
    obtain ⟨hv, G6, rfl, u6, r6⟩ := h1
    rw [(r32 L.fid).1] at hv
    rw [(r32 L.fid).2] at r6
    subst hv
    have hr6 := keepR u6 hr5 hit
    obtain ⟨rs6, hs6, us6⟩ := r6.put (b := Block.row ⟨72, 14, AskR.cells ⟨116, a.tag, a.fid, 0, 0, 0, 0, 0, 0, 0, [], [], 0, []⟩ .nilsl .nilsl, false, false⟩) hr6 hit hqt
    simp only [go_sem, ti29, ti3, w4, ka2 (get0 hr6), ks2 (a := ⟨116, a.tag, 0, 0, 0, 0, 0, 0, 0, 0, [], [], 0, []⟩) (get0 hr6)]
    (repeat refine W_seq ?_); refine W_regionT [] ?_
    simp only [go_sem]
    refine AT_call rfl rfl (get122_116 (a := a) rs6 hqix hs6 hit hqt (fun k hk2 => by have h9 := hqb5 k hk2; have := u6.l; simp; omega) fit L.off L.count) fun v M1 hd1 h1 => ?_
    obtain ⟨hv, G8, vn, vd, rfl, u8, r8_, hr8, tn, td⟩ := h1; subst hv
    have hrec : (⟨116, a.tag, a.fid, 0, 0, 0, 0, 0, a.off, a.count, [], [], 0, []⟩ : AskR) = a := by
      have h := L.own
      rw [own116 hk] at h
      rw [hk] at h
      exact h.symm
    have uu : UpdH (fun k => k = ix ∨ k = it) G5 G8 := ((u6.mono (fun k _ h => .inl h)).trans (us6.mono (fun k _ h => .inr h)) (fun k _ h => h) (fun k _ h => h)).trans u8 (fun k _ h => h) (fun k _ h => h)
    have uH8 : UpdH no H G8 := uH5.trans uu (fun i _ h => h.elim) (fun i hi h => by rcases h with h | h <;> omega)
    rw [hrec] at hr8
    have tn8 : TH G8 vn a.names := by rw [← congrArg AskR.names hrec]; exact tn
    have td8 : BH G8 vd a.data := by rw [← congrArg AskR.data hrec]; exact td
    have cst := cells_st tn8 td8 (a := a)
    simp only [go_sem, Bool.not_true]
    (repeat refine W_seq ?_)
    refine W_cond (b := false) rfl ?_
    simp only [Bool.false_eq_true, if_false]
    refine W_skip ?_
    simp only [go_sem]
    (repeat refine W_seq ?_); refine W_regionT [] ?_
    simp only [go_sem]
    refine AT_call rfl rfl (end45 r8_) fun v M1 hd1 h1 => ?_
    obtain ⟨hv, hM⟩ := h1; subst hM
    rw [show rEnd ([], 0) = 0 from rfl] at hv; subst hv
    simp only [go_sem]
    (repeat refine W_seq ?_); refine W_regionT [] ?_
    simp only [go_sem]
    (repeat refine W_seq ?_)
    refine W_cond (b := false) rfl ?_
    simp only [Bool.false_eq_true, if_false]
    refine W_skip ?_
    simp only [go_sem]
    (repeat refine W_seq ?_); refine W_regionT [] ?_
    simp only [go_sem, kL (get0 hr8)]
    refine AT_call rfl rfl (may55 (a := a) ⟨vn, vd, rfl, tn8, td8⟩ (by have := fit.l; omega)) fun v M1 hd1 h1 => ?_
    obtain ⟨hv, G9, rfl, u9⟩ := h1; rw [hm] at hv; subst hv
    have hr9 := u9.get hr8 (fun h => h)
    simp only [go_sem, Bool.not_true]
    (repeat refine W_seq ?_)
    refine W_cond (b := false) rfl ?_
    simp only [Bool.false_eq_true, if_false]
    refine W_skip ?_
    simp only [go_sem]
    (repeat refine W_seq ?_); refine W_regionT [] ?_
    simp only [go_sem, kL (get0 hr9), kS_0 cst]
    refine W_ret ⟨.inr rfl, [.agg (a.cells vn vd), .int .i64 0], ?_, ?_, _, _, _, rfl, rfl, uH8.then u9 (fun _ _ h => h), tn8.new u9, td8.new u9⟩
    · show (match loadA Try.prog 72 (.ptr ⟨S.length + 1, 0, 0⟩) _, resE Try.prog _ _ [.tmp 3] with | some v, some vs => some (v :: vs) | _, _ => none) = _
      rw [kL_0]; rfl
    · show lev0s [AV.agg _, .int .i64 0] = true
      have e : lev0s (AskR.cells a vn vd) = true := cells_lev tn8.lev0' td8.lev0'
      simp only [lev0s, AV.lev0, e, Bool.and_true]
  · have hbK : a.body = le (u32 a.fid) 4 ++ (le (u64 a.off) 8 ++ (le a.data.length 4 ++ (a.data ++ []))) := by rw [body118 hk]; simp [List.append_assoc]
    rw [hbK] at r5
    rw [hk] at hr5
    have ne100 : ¬ (118 : Int) = 100 := by decide
    have ne108 : ¬ (118 : Int) = 108 := by decide
    (repeat refine W_seq ?_); refine W_regionT [] ?_
    simp only [go_sem, ka0 (get0 hr5), kl0 (get0 hr5), decide_eq_false ne100, decide_eq_false ne108, Bool.not_false, Bool.not_true, decide_true]
    (repeat refine W_seq ?_)
    refine W_cond (b := true) rfl ?_
    simp only [if_true]
    (repeat refine W_seq ?_); refine W_regionT [] ?_
    simp only [go_sem]
    refine AT_call rfl rfl (num38 r5 hqix) fun v M1 hd1 h1 => ?_
    obtain ⟨hv, G6, rfl, u6, r6⟩ := h1
    rw [(r32 L.fid).1] at hv
    rw [(r32 L.fid).2] at r6
    subst hv
    have hr6 := keepR u6 hr5 hit
    obtain ⟨rs6, hs6, us6⟩ := r6.put (b := Block.row ⟨72, 14, AskR.cells ⟨118, a.tag, a.fid, 0, 0, 0, 0, 0, 0, 0, [], [], 0, []⟩ .nilsl .nilsl, false, false⟩) hr6 hit hqt
    simp only [go_sem, ti29, ti3, w4, ka2 (get0 hr6), ks2 (a := ⟨118, a.tag, 0, 0, 0, 0, 0, 0, 0, 0, [], [], 0, []⟩) (get0 hr6)]
    (repeat refine W_seq ?_); refine W_regionT [] ?_
    simp only [go_sem]
    refine AT_call rfl rfl (get122_118 (a := a) rs6 hqix hs6 hit hqt (fun k hk2 => by have h9 := hqb5 k hk2; have := u6.l; simp; omega) fit L.off) fun v M1 hd1 h1 => ?_
    obtain ⟨hv, G8, vn, vd, rfl, u8, r8_, hr8, tn, td⟩ := h1; subst hv
    have hrec : (⟨118, a.tag, a.fid, 0, 0, 0, 0, 0, a.off, 0, [], [], 0, a.data⟩ : AskR) = a := by
      have h := L.own
      rw [own118 hk] at h
      rw [hk] at h
      exact h.symm
    have uu : UpdH (fun k => k = ix ∨ k = it) G5 G8 := ((u6.mono (fun k _ h => .inl h)).trans (us6.mono (fun k _ h => .inr h)) (fun k _ h => h) (fun k _ h => h)).trans u8 (fun k _ h => h) (fun k _ h => h)
    have uH8 : UpdH no H G8 := uH5.trans uu (fun i _ h => h.elim) (fun i hi h => by rcases h with h | h <;> omega)
    rw [hrec] at hr8
    have tn8 : TH G8 vn a.names := by rw [← congrArg AskR.names hrec]; exact tn
    have td8 : BH G8 vd a.data := by rw [← congrArg AskR.data hrec]; exact td
    have cst := cells_st tn8 td8 (a := a)
    simp only [go_sem, Bool.not_true]
    (repeat refine W_seq ?_)
    refine W_cond (b := false) rfl ?_
    simp only [Bool.false_eq_true, if_false]
    refine W_skip ?_
    simp only [go_sem]
    (repeat refine W_seq ?_); refine W_regionT [] ?_
    simp only [go_sem]
    refine AT_call rfl rfl (end45 r8_) fun v M1 hd1 h1 => ?_
    obtain ⟨hv, hM⟩ := h1; subst hM
    rw [show rEnd ([], 0) = 0 from rfl] at hv; subst hv
    simp only [go_sem]
    (repeat refine W_seq ?_); refine W_regionT [] ?_
    simp only [go_sem]
    (repeat refine W_seq ?_)
    refine W_cond (b := false) rfl ?_
    simp only [Bool.false_eq_true, if_false]
    refine W_skip ?_
    simp only [go_sem]
    (repeat refine W_seq ?_); refine W_regionT [] ?_
    simp only [go_sem, kL (get0 hr8)]
    refine AT_call rfl rfl (may55 (a := a) ⟨vn, vd, rfl, tn8, td8⟩ (by have := fit.l; omega)) fun v M1 hd1 h1 => ?_
    obtain ⟨hv, G9, rfl, u9⟩ := h1; rw [hm] at hv; subst hv
    have hr9 := u9.get hr8 (fun h => h)
    simp only [go_sem, Bool.not_true]
    (repeat refine W_seq ?_)
    refine W_cond (b := false) rfl ?_
    simp only [Bool.false_eq_true, if_false]
    refine W_skip ?_
    simp only [go_sem]
    (repeat refine W_seq ?_); refine W_regionT [] ?_
    simp only [go_sem, kL (get0 hr9), kS_0 cst]
    refine W_ret ⟨.inr rfl, [.agg (a.cells vn vd), .int .i64 0], ?_, ?_, _, _, _, rfl, rfl, uH8.then u9 (fun _ _ h => h), tn8.new u9, td8.new u9⟩
    · show (match loadA Try.prog 72 (.ptr ⟨S.length + 1, 0, 0⟩) _, resE Try.prog _ _ [.tmp 3] with | some v, some vs => some (v :: vs) | _, _ => none) = _
      rw [kL_0]; rfl
    · show lev0s [AV.agg _, .int .i64 0] = true
      have e : lev0s (AskR.cells a vn vd) = true := cells_lev tn8.lev0' td8.lev0'
      simp only [lev0s, AV.lev0, e, Bool.and_true]
  · have hbK : a.body = le (u32 a.fid) 4 ++ ([]) := by rw [body120 hk]; simp [List.append_assoc]
    rw [hbK] at r5
    rw [hk] at hr5
    have ne100 : ¬ (120 : Int) = 100 := by decide
    have ne108 : ¬ (120 : Int) = 108 := by decide
    (repeat refine W_seq ?_); refine W_regionT [] ?_
    simp only [go_sem, ka0 (get0 hr5), kl0 (get0 hr5), decide_eq_false ne100, decide_eq_false ne108, Bool.not_false, Bool.not_true, decide_true]
    (repeat refine W_seq ?_)
    refine W_cond (b := true) rfl ?_
    simp only [if_true]
    (repeat refine W_seq ?_); refine W_regionT [] ?_
    simp only [go_sem]
    refine AT_call rfl rfl (num38 r5 hqix) fun v M1 hd1 h1 => ?_
    obtain ⟨hv, G6, rfl, u6, r6⟩ := h1
    rw [(r32 L.fid).1] at hv
    rw [(r32 L.fid).2] at r6
    subst hv
    have hr6 := keepR u6 hr5 hit
    obtain ⟨rs6, hs6, us6⟩ := r6.put (b := Block.row ⟨72, 14, AskR.cells ⟨120, a.tag, a.fid, 0, 0, 0, 0, 0, 0, 0, [], [], 0, []⟩ .nilsl .nilsl, false, false⟩) hr6 hit hqt
    simp only [go_sem, ti29, ti3, w4, ka2 (get0 hr6), ks2 (a := ⟨120, a.tag, 0, 0, 0, 0, 0, 0, 0, 0, [], [], 0, []⟩) (get0 hr6)]
    (repeat refine W_seq ?_); refine W_regionT [] ?_
    simp only [go_sem]
    refine AT_call rfl rfl (get122_120 (a := a) rs6 hqix hs6 hit hqt (fun k hk2 => by have h9 := hqb5 k hk2; have := u6.l; simp; omega) fit ) fun v M1 hd1 h1 => ?_
    obtain ⟨hv, G8, vn, vd, rfl, u8, r8_, hr8, tn, td⟩ := h1; subst hv
    have hrec : (⟨120, a.tag, a.fid, 0, 0, 0, 0, 0, 0, 0, [], [], 0, []⟩ : AskR) = a := by
      have h := L.own
      rw [own120 hk] at h
      rw [hk] at h
      exact h.symm
    have uu : UpdH (fun k => k = ix ∨ k = it) G5 G8 := ((u6.mono (fun k _ h => .inl h)).trans (us6.mono (fun k _ h => .inr h)) (fun k _ h => h) (fun k _ h => h)).trans u8 (fun k _ h => h) (fun k _ h => h)
    have uH8 : UpdH no H G8 := uH5.trans uu (fun i _ h => h.elim) (fun i hi h => by rcases h with h | h <;> omega)
    rw [hrec] at hr8
    have tn8 : TH G8 vn a.names := by rw [← congrArg AskR.names hrec]; exact tn
    have td8 : BH G8 vd a.data := by rw [← congrArg AskR.data hrec]; exact td
    have cst := cells_st tn8 td8 (a := a)
    simp only [go_sem, Bool.not_true]
    (repeat refine W_seq ?_)
    refine W_cond (b := false) rfl ?_
    simp only [Bool.false_eq_true, if_false]
    refine W_skip ?_
    simp only [go_sem]
    (repeat refine W_seq ?_); refine W_regionT [] ?_
    simp only [go_sem]
    refine AT_call rfl rfl (end45 r8_) fun v M1 hd1 h1 => ?_
    obtain ⟨hv, hM⟩ := h1; subst hM
    rw [show rEnd ([], 0) = 0 from rfl] at hv; subst hv
    simp only [go_sem]
    (repeat refine W_seq ?_); refine W_regionT [] ?_
    simp only [go_sem]
    (repeat refine W_seq ?_)
    refine W_cond (b := false) rfl ?_
    simp only [Bool.false_eq_true, if_false]
    refine W_skip ?_
    simp only [go_sem]
    (repeat refine W_seq ?_); refine W_regionT [] ?_
    simp only [go_sem, kL (get0 hr8)]
    refine AT_call rfl rfl (may55 (a := a) ⟨vn, vd, rfl, tn8, td8⟩ (by have := fit.l; omega)) fun v M1 hd1 h1 => ?_
    obtain ⟨hv, G9, rfl, u9⟩ := h1; rw [hm] at hv; subst hv
    have hr9 := u9.get hr8 (fun h => h)
    simp only [go_sem, Bool.not_true]
    (repeat refine W_seq ?_)
    refine W_cond (b := false) rfl ?_
    simp only [Bool.false_eq_true, if_false]
    refine W_skip ?_
    simp only [go_sem]
    (repeat refine W_seq ?_); refine W_regionT [] ?_
    simp only [go_sem, kL (get0 hr9), kS_0 cst]
    refine W_ret ⟨.inr rfl, [.agg (a.cells vn vd), .int .i64 0], ?_, ?_, _, _, _, rfl, rfl, uH8.then u9 (fun _ _ h => h), tn8.new u9, td8.new u9⟩
    · show (match loadA Try.prog 72 (.ptr ⟨S.length + 1, 0, 0⟩) _, resE Try.prog _ _ [.tmp 3] with | some v, some vs => some (v :: vs) | _, _ => none) = _
      rw [kL_0]; rfl
    · show lev0s [AV.agg _, .int .i64 0] = true
      have e : lev0s (AskR.cells a vn vd) = true := cells_lev tn8.lev0' td8.lev0'
      simp only [lev0s, AV.lev0, e, Bool.and_true]
  · have hbK : a.body = le (u32 a.fid) 4 ++ ([]) := by rw [body122 hk]; simp [List.append_assoc]
    rw [hbK] at r5
    rw [hk] at hr5
    have ne100 : ¬ (122 : Int) = 100 := by decide
    have ne108 : ¬ (122 : Int) = 108 := by decide
    (repeat refine W_seq ?_); refine W_regionT [] ?_
    simp only [go_sem, ka0 (get0 hr5), kl0 (get0 hr5), decide_eq_false ne100, decide_eq_false ne108, Bool.not_false, Bool.not_true, decide_true]
    (repeat refine W_seq ?_)
    refine W_cond (b := true) rfl ?_
    simp only [if_true]
    (repeat refine W_seq ?_); refine W_regionT [] ?_
    simp only [go_sem]
    refine AT_call rfl rfl (num38 r5 hqix) fun v M1 hd1 h1 => ?_
    obtain ⟨hv, G6, rfl, u6, r6⟩ := h1
    rw [(r32 L.fid).1] at hv
    rw [(r32 L.fid).2] at r6
    subst hv
    have hr6 := keepR u6 hr5 hit
    obtain ⟨rs6, hs6, us6⟩ := r6.put (b := Block.row ⟨72, 14, AskR.cells ⟨122, a.tag, a.fid, 0, 0, 0, 0, 0, 0, 0, [], [], 0, []⟩ .nilsl .nilsl, false, false⟩) hr6 hit hqt
    simp only [go_sem, ti29, ti3, w4, ka2 (get0 hr6), ks2 (a := ⟨122, a.tag, 0, 0, 0, 0, 0, 0, 0, 0, [], [], 0, []⟩) (get0 hr6)]
    (repeat refine W_seq ?_); refine W_regionT [] ?_
    simp only [go_sem]
    refine AT_call rfl rfl (get122_122 (a := a) rs6 hqix hs6 hit hqt (fun k hk2 => by have h9 := hqb5 k hk2; have := u6.l; simp; omega) fit ) fun v M1 hd1 h1 => ?_
    obtain ⟨hv, G8, vn, vd, rfl, u8, r8_, hr8, tn, td⟩ := h1; subst hv
    have hrec : (⟨122, a.tag, a.fid, 0, 0, 0, 0, 0, 0, 0, [], [], 0, []⟩ : AskR) = a := by
      have h := L.own
      rw [own122 hk] at h
      rw [hk] at h
      exact h.symm
    have uu : UpdH (fun k => k = ix ∨ k = it) G5 G8 := ((u6.mono (fun k _ h => .inl h)).trans (us6.mono (fun k _ h => .inr h)) (fun k _ h => h) (fun k _ h => h)).trans u8 (fun k _ h => h) (fun k _ h => h)
    have uH8 : UpdH no H G8 := uH5.trans uu (fun i _ h => h.elim) (fun i hi h => by rcases h with h | h <;> omega)
    rw [hrec] at hr8
    have tn8 : TH G8 vn a.names := by rw [← congrArg AskR.names hrec]; exact tn
    have td8 : BH G8 vd a.data := by rw [← congrArg AskR.data hrec]; exact td
    have cst := cells_st tn8 td8 (a := a)
    simp only [go_sem, Bool.not_true]
    (repeat refine W_seq ?_)
    refine W_cond (b := false) rfl ?_
    simp only [Bool.false_eq_true, if_false]
    refine W_skip ?_
    simp only [go_sem]
    (repeat refine W_seq ?_); refine W_regionT [] ?_
    simp only [go_sem]
    refine AT_call rfl rfl (end45 r8_) fun v M1 hd1 h1 => ?_
    obtain ⟨hv, hM⟩ := h1; subst hM
    rw [show rEnd ([], 0) = 0 from rfl] at hv; subst hv
    simp only [go_sem]
    (repeat refine W_seq ?_); refine W_regionT [] ?_
    simp only [go_sem]
    (repeat refine W_seq ?_)
    refine W_cond (b := false) rfl ?_
    simp only [Bool.false_eq_true, if_false]
    refine W_skip ?_
    simp only [go_sem]
    (repeat refine W_seq ?_); refine W_regionT [] ?_
    simp only [go_sem, kL (get0 hr8)]
    refine AT_call rfl rfl (may55 (a := a) ⟨vn, vd, rfl, tn8, td8⟩ (by have := fit.l; omega)) fun v M1 hd1 h1 => ?_
    obtain ⟨hv, G9, rfl, u9⟩ := h1; rw [hm] at hv; subst hv
    have hr9 := u9.get hr8 (fun h => h)
    simp only [go_sem, Bool.not_true]
    (repeat refine W_seq ?_)
    refine W_cond (b := false) rfl ?_
    simp only [Bool.false_eq_true, if_false]
    refine W_skip ?_
    simp only [go_sem]
    (repeat refine W_seq ?_); refine W_regionT [] ?_
    simp only [go_sem, kL (get0 hr9), kS_0 cst]
    refine W_ret ⟨.inr rfl, [.agg (a.cells vn vd), .int .i64 0], ?_, ?_, _, _, _, rfl, rfl, uH8.then u9 (fun _ _ h => h), tn8.new u9, td8.new u9⟩
    · show (match loadA Try.prog 72 (.ptr ⟨S.length + 1, 0, 0⟩) _, resE Try.prog _ _ [.tmp 3] with | some v, some vs => some (v :: vs) | _, _ => none) = _
      rw [kL_0]; rfl
    · show lev0s [AV.agg _, .int .i64 0] = true
      have e : lev0s (AskR.cells a vn vd) = true := cells_lev tn8.lev0' td8.lev0'
      simp only [lev0s, AV.lev0, e, Bool.and_true]
  · have hbK : a.body = le (u32 a.fid) 4 ++ ([]) := by rw [body124 hk]; simp [List.append_assoc]
    rw [hbK] at r5
    rw [hk] at hr5
    have ne100 : ¬ (124 : Int) = 100 := by decide
    have ne108 : ¬ (124 : Int) = 108 := by decide
    (repeat refine W_seq ?_); refine W_regionT [] ?_
    simp only [go_sem, ka0 (get0 hr5), kl0 (get0 hr5), decide_eq_false ne100, decide_eq_false ne108, Bool.not_false, Bool.not_true, decide_true]
    (repeat refine W_seq ?_)
    refine W_cond (b := true) rfl ?_
    simp only [if_true]
    (repeat refine W_seq ?_); refine W_regionT [] ?_
    simp only [go_sem]
    refine AT_call rfl rfl (num38 r5 hqix) fun v M1 hd1 h1 => ?_
    obtain ⟨hv, G6, rfl, u6, r6⟩ := h1
    rw [(r32 L.fid).1] at hv
    rw [(r32 L.fid).2] at r6
    subst hv
    have hr6 := keepR u6 hr5 hit
    obtain ⟨rs6, hs6, us6⟩ := r6.put (b := Block.row ⟨72, 14, AskR.cells ⟨124, a.tag, a.fid, 0, 0, 0, 0, 0, 0, 0, [], [], 0, []⟩ .nilsl .nilsl, false, false⟩) hr6 hit hqt
    simp only [go_sem, ti29, ti3, w4, ka2 (get0 hr6), ks2 (a := ⟨124, a.tag, 0, 0, 0, 0, 0, 0, 0, 0, [], [], 0, []⟩) (get0 hr6)]
    (repeat refine W_seq ?_); refine W_regionT [] ?_
    simp only [go_sem]
    refine AT_call rfl rfl (get122_124 (a := a) rs6 hqix hs6 hit hqt (fun k hk2 => by have h9 := hqb5 k hk2; have := u6.l; simp; omega) fit ) fun v M1 hd1 h1 => ?_
    obtain ⟨hv, G8, vn, vd, rfl, u8, r8_, hr8, tn, td⟩ := h1; subst hv
    have hrec : (⟨124, a.tag, a.fid, 0, 0, 0, 0, 0, 0, 0, [], [], 0, []⟩ : AskR) = a := by
      have h := L.own
      rw [own124 hk] at h
      rw [hk] at h
      exact h.symm
    have uu : UpdH (fun k => k = ix ∨ k = it) G5 G8 := ((u6.mono (fun k _ h => .inl h)).trans (us6.mono (fun k _ h => .inr h)) (fun k _ h => h) (fun k _ h => h)).trans u8 (fun k _ h => h) (fun k _ h => h)
    have uH8 : UpdH no H G8 := uH5.trans uu (fun i _ h => h.elim) (fun i hi h => by rcases h with h | h <;> omega)
    rw [hrec] at hr8
    have tn8 : TH G8 vn a.names := by rw [← congrArg AskR.names hrec]; exact tn
    have td8 : BH G8 vd a.data := by rw [← congrArg AskR.data hrec]; exact td
    have cst := cells_st tn8 td8 (a := a)
    simp only [go_sem, Bool.not_true]
    (repeat refine W_seq ?_)
    refine W_cond (b := false) rfl ?_
    simp only [Bool.false_eq_true, if_false]
    refine W_skip ?_
    simp only [go_sem]
    (repeat refine W_seq ?_); refine W_regionT [] ?_
    simp only [go_sem]
    refine AT_call rfl rfl (end45 r8_) fun v M1 hd1 h1 => ?_
    obtain ⟨hv, hM⟩ := h1; subst hM
    rw [show rEnd ([], 0) = 0 from rfl] at hv; subst hv
    simp only [go_sem]
    (repeat refine W_seq ?_); refine W_regionT [] ?_
    simp only [go_sem]
    (repeat refine W_seq ?_)
    refine W_cond (b := false) rfl ?_
    simp only [Bool.false_eq_true, if_false]
    refine W_skip ?_
    simp only [go_sem]
    (repeat refine W_seq ?_); refine W_regionT [] ?_
    simp only [go_sem, kL (get0 hr8)]
    refine AT_call rfl rfl (may55 (a := a) ⟨vn, vd, rfl, tn8, td8⟩ (by have := fit.l; omega)) fun v M1 hd1 h1 => ?_
    obtain ⟨hv, G9, rfl, u9⟩ := h1; rw [hm] at hv; subst hv
    have hr9 := u9.get hr8 (fun h => h)
    simp only [go_sem, Bool.not_true]
    (repeat refine W_seq ?_)
    refine W_cond (b := false) rfl ?_
    simp only [Bool.false_eq_true, if_false]
    refine W_skip ?_
    simp only [go_sem]
    (repeat refine W_seq ?_); refine W_regionT [] ?_
    simp only [go_sem, kL (get0 hr9), kS_0 cst]
    refine W_ret ⟨.inr rfl, [.agg (a.cells vn vd), .int .i64 0], ?_, ?_, _, _, _, rfl, rfl, uH8.then u9 (fun _ _ h => h), tn8.new u9, td8.new u9⟩
    · show (match loadA Try.prog 72 (.ptr ⟨S.length + 1, 0, 0⟩) _, resE Try.prog _ _ [.tmp 3] with | some v, some vs => some (v :: vs) | _, _ => none) = _
      rw [kL_0]; rfl
    · show lev0s [AV.agg _, .int .i64 0] = true
      have e : lev0s (AskR.cells a vn vd) = true := cells_lev tn8.lev0' td8.lev0'
      simp only [lev0s, AV.lev0, e, Bool.and_true]
  · have hbK : a.body = le (u32 a.fid) 4 ++ (le (u32 a.size) 4 ++ (le a.name.length 2 ++ (a.name ++ []))) := by rw [body126 hk]; simp [List.append_assoc]
    rw [hbK] at r5
    rw [hk] at hr5
    have ne100 : ¬ (126 : Int) = 100 := by decide
    have ne108 : ¬ (126 : Int) = 108 := by decide
    (repeat refine W_seq ?_); refine W_regionT [] ?_
    simp only [go_sem, ka0 (get0 hr5), kl0 (get0 hr5), decide_eq_false ne100, decide_eq_false ne108, Bool.not_false, Bool.not_true, decide_true]
    (repeat refine W_seq ?_)
    refine W_cond (b := true) rfl ?_
    simp only [if_true]
    (repeat refine W_seq ?_); refine W_regionT [] ?_
    simp only [go_sem]
    refine AT_call rfl rfl (num38 r5 hqix) fun v M1 hd1 h1 => ?_
    obtain ⟨hv, G6, rfl, u6, r6⟩ := h1
    rw [(r32 L.fid).1] at hv
    rw [(r32 L.fid).2] at r6
    subst hv
    have hr6 := keepR u6 hr5 hit
    obtain ⟨rs6, hs6, us6⟩ := r6.put (b := Block.row ⟨72, 14, AskR.cells ⟨126, a.tag, a.fid, 0, 0, 0, 0, 0, 0, 0, [], [], 0, []⟩ .nilsl .nilsl, false, false⟩) hr6 hit hqt
    simp only [go_sem, ti29, ti3, w4, ka2 (get0 hr6), ks2 (a := ⟨126, a.tag, 0, 0, 0, 0, 0, 0, 0, 0, [], [], 0, []⟩) (get0 hr6)]
    (repeat refine W_seq ?_); refine W_regionT [] ?_
    simp only [go_sem]
    refine AT_call rfl rfl (get122_126 (a := a) rs6 hqix hs6 hit hqt (fun k hk2 => by have h9 := hqb5 k hk2; have := u6.l; simp; omega) fit L.size) fun v M1 hd1 h1 => ?_
    obtain ⟨hv, G8, vn, vd, rfl, u8, r8_, hr8, tn, td⟩ := h1; subst hv
    have hrec : (⟨126, a.tag, a.fid, 0, 0, 0, 0, 0, 0, 0, a.name, [], a.size, []⟩ : AskR) = a := by
      have h := L.own
      rw [own126 hk] at h
      rw [hk] at h
      exact h.symm
    have uu : UpdH (fun k => k = ix ∨ k = it) G5 G8 := ((u6.mono (fun k _ h => .inl h)).trans (us6.mono (fun k _ h => .inr h)) (fun k _ h => h) (fun k _ h => h)).trans u8 (fun k _ h => h) (fun k _ h => h)
    have uH8 : UpdH no H G8 := uH5.trans uu (fun i _ h => h.elim) (fun i hi h => by rcases h with h | h <;> omega)
    rw [hrec] at hr8
    have tn8 : TH G8 vn a.names := by rw [← congrArg AskR.names hrec]; exact tn
    have td8 : BH G8 vd a.data := by rw [← congrArg AskR.data hrec]; exact td
    have cst := cells_st tn8 td8 (a := a)
    simp only [go_sem, Bool.not_true]
    (repeat refine W_seq ?_)
    refine W_cond (b := false) rfl ?_
    simp only [Bool.false_eq_true, if_false]
    refine W_skip ?_
    simp only [go_sem]
    (repeat refine W_seq ?_); refine W_regionT [] ?_
    simp only [go_sem]
    refine AT_call rfl rfl (end45 r8_) fun v M1 hd1 h1 => ?_
    obtain ⟨hv, hM⟩ := h1; subst hM
    rw [show rEnd ([], 0) = 0 from rfl] at hv; subst hv
    simp only [go_sem]
    (repeat refine W_seq ?_); refine W_regionT [] ?_
    simp only [go_sem]
    (repeat refine W_seq ?_)
    refine W_cond (b := false) rfl ?_
    simp only [Bool.false_eq_true, if_false]
    refine W_skip ?_
    simp only [go_sem]
    (repeat refine W_seq ?_); refine W_regionT [] ?_
    simp only [go_sem, kL (get0 hr8)]
    refine AT_call rfl rfl (may55 (a := a) ⟨vn, vd, rfl, tn8, td8⟩ (by have := fit.l; omega)) fun v M1 hd1 h1 => ?_
    obtain ⟨hv, G9, rfl, u9⟩ := h1; rw [hm] at hv; subst hv
    have hr9 := u9.get hr8 (fun h => h)
    simp only [go_sem, Bool.not_true]
    (repeat refine W_seq ?_)
    refine W_cond (b := false) rfl ?_
    simp only [Bool.false_eq_true, if_false]
    refine W_skip ?_
    simp only [go_sem]
    (repeat refine W_seq ?_); refine W_regionT [] ?_
    simp only [go_sem, kL (get0 hr9), kS_0 cst]
    refine W_ret ⟨.inr rfl, [.agg (a.cells vn vd), .int .i64 0], ?_, ?_, _, _, _, rfl, rfl, uH8.then u9 (fun _ _ h => h), tn8.new u9, td8.new u9⟩
    · show (match loadA Try.prog 72 (.ptr ⟨S.length + 1, 0, 0⟩) _, resE Try.prog _ _ [.tmp 3] with | some v, some vs => some (v :: vs) | _, _ => none) = _
      rw [kL_0]; rfl
    · show lev0s [AV.agg _, .int .i64 0] = true
      have e : lev0s (AskR.cells a vn vd) = true := cells_lev tn8.lev0' td8.lev0'
      simp only [lev0s, AV.lev0, e, Bool.and_true]
theorem tag74 {vb : AV} {a : AskR} (hb : BH H vb a.pack) (hm : a.may = true) : AC Try.prog 74 [vb] ⟨H, S⟩ (fun v M' => v = .int .i64 a.tag ∧ ∃ H', M' = ⟨H', S⟩ ∧ UpdH no H H') := by
  refine AC_of_WE Try.func74 rfl ?_
  simp only [Try.ntmps74, List.length_cons, List.length_nil, List.replicate, List.cons_append, List.nil_append, mem_enter]
  have fit := AskR.fit hm
  have hk0 := AskR.known hm
  have L := AskR.lims hm
  have hbl := AskR.body_len fit hk0
  have w3 : IntKind.wrap .i64 a.tag = a.tag := by have := L.tag; exact wrap_i64 (by omega) (by omega)
  have h7 : ¬ ((a.pack.length : Nat) : Int) < 7 := by rw [pack_len]; omega
  obtain ⟨v5, hc5, b5, _⟩ := hb.cut (S := [] :: S) (lo := some (.int .i64 5)) (hi := none) (a := 5) (b := a.pack.length) rfl rfl (by rw [pack_len]; omega) (Nat.le_refl _)
  have h5 : (a.pack.take a.pack.length).drop 5 = le (u16 a.tag) 2 ++ a.body := by
    rw [List.take_length]
    have e : a.pack = (le (7 + a.body.length) 4 ++ le (u8 a.ty) 1) ++ (le (u16 a.tag) 2 ++ a.body) := by unfold AskR.pack; simp only [List.append_assoc]
    rw [e, List.drop_left' (by simp only [List.length_append, le_length])]
  rw [h5] at b5
  (repeat refine W_seq ?_); refine W_regionT [] ?_
  simp only [go_sem]
  (repeat refine W_seq ?_); refine W_regionT [] ?_
  simp only [go_sem, BH.len hb, decide_eq_false h7]
  (repeat refine W_seq ?_)
  refine W_cond (b := false) rfl ?_
  simp only [Bool.false_eq_true, if_false]
  refine W_skip ?_
  simp only [go_sem]
  (repeat refine W_seq ?_); refine W_regionT [] ?_
  simp only [go_sem, Option.map_none, Option.map_some, hc5]
  refine AT_call rfl rfl (read33 b5 (by simp only [List.length_append, le_length]; omega)) fun v M1 hd1 h1 => ?_
  obtain ⟨ix, G1, rfl, rfl, u1, hix, r1⟩ := h1
  simp only [go_sem]
  refine AT_call rfl rfl (num37 r1 (fun h => h.2.2 rfl)) fun v M1 hd1 h1 => ?_
  obtain ⟨hv, G2, rfl, u2, r2⟩ := h1
  rw [(r16 L.tag).1] at hv; subst hv
  simp only [go_sem, ti24, ti3, w3]
  exact W_ret ⟨.inr rfl, _, rfl, rfl, rfl, _, rfl, u1.then u2 (fun k hk h => by omega)⟩
theorem askRound {a : AskR} {vn vd : AV} (hn : TH H vn a.names) (hd : BH H vd a.data) (g : a.Rng) : AC Try.prog 16 [.agg (a.cells vn vd)] ⟨H, S⟩ (fun v M' => v = .bool true) := by
  refine AC_of_WE Try.func16 rfl ?_
  simp only [Try.ntmps16, List.length_cons, List.length_nil, List.replicate, List.cons_append, List.nil_append, mem_enter]
  have c1 := cells_st (a := a) hn hd
  have hgm := good_may (a := a)
  have hgs := good_short (a := a)
  (repeat refine W_seq ?_); refine W_regionT [] ?_
  simp only [go_sem, kboxL c1, List.nil_append, List.cons_append, List.length_nil, List.length_cons, Nat.zero_add, Nat.reduceAdd]
  (repeat refine W_seq ?_); refine W_regionT [] ?_
  simp only [go_sem, ka0_0, ka1_0, ka2_0, ka3_0, ka4_0, ka5_0, ka6_0, ka7_0, ka8_0, ka9_0, ka10_0, ka11_0, ka12_0, ka13_0, kl0_0, kl1_0, kl2_0, kl3_0, kl4_0, kl5_0, kl6_0, kl7_0, kl8_0, kl9_0, kl10_0, kl11_0, kl12_0, kl13_0, kL_0]
  refine AT_call rfl rfl (good51 hn hd g) fun v M1 hd1 h1 => ?_
  obtain ⟨G1, rfl, u1, gn, gd, rfl, p1, q1, _⟩ := h1
  have c2 := cells_st2 a.good (OH1 p1).1 q1.one.1
  simp only [go_sem, kallocL, kS_1 c2, List.nil_append, List.cons_append, List.length_nil, List.length_cons, Nat.zero_add, Nat.reduceAdd]
  (repeat refine W_seq ?_); refine W_regionT [] ?_
  simp only [go_sem, kL_1]
  refine AT_call rfl rfl (write54 (a := a.good) ⟨gn, gd, rfl, p1.rh, q1⟩ (by omega)) fun v M1 hd1 h1 => ?_
  rw [hgm] at h1
  obtain ⟨G2, wb, rfl, rfl, u2, b2, _⟩ := h1
  simp only [if_true] at b2
  simp only [go_sem, if_true]
  (repeat refine W_seq ?_); refine W_regionT [] ?_
  simp only [go_sem]
  refine AT_call rfl rfl (askRead72 b2 hgm) fun v M1 hd1 h1 => ?_
  obtain ⟨G3, xn, xd, rfl, rfl, u3, tx, dx⟩ := h1
  have c3 := cells_st2 a.good tx.one.1 dx.one.1
  have p3 := (p1.new u2).new u3
  have q3 := (q1.new u2).new u3
  simp only [go_sem, kallocL, kS_2 c3, List.nil_append, List.cons_append, List.length_nil, List.length_cons, Nat.zero_add, Nat.reduceAdd]
  (repeat refine W_seq ?_); refine W_regionD [] [9, 14, 18, 24] [0, 1, 2, 3, 4, 5, 6, 7, 8, 9, 10, 11, 12, 13, 14, 15, 16, 17, 19, 20, 18, 21, 22, 23, 24, 25, 26] [0, 1, 3, 7, 15, 31, 63, 127, 127, 511, 1023, 2047, 4095, 4095, 16383, 32767, 65535, 131071, 262143, 131071, 655359, 2097151, 4194303, 8388607, 16777215, 33554431, 67108863] mixedM (by kernel_rfl) (by kernel_rfl) (by kernel_rfl) ?_
  simp only [listed, go_sem, decide_true, if_true, Bool.true_and]
  refine AD_read (v := .agg (a.good.cells xn xd)) (fun M' => M'.get (S.length + 1) 2 = some (Block.row ⟨72, 14, AskR.cells a.good xn xd, false, false⟩)) rfl rfl (fun M' h => by show pureV (loadA Try.prog 72 (.ptr ⟨S.length + 1, 2, 0⟩) M') M' = _; rw [kL h]; rfl) (gt2) ?_
  simp only [go_sem, decide_true, if_true, Bool.true_and]
  refine AD_read (v := .agg (a.good.cells gn gd)) (fun M' => M'.get (S.length + 1) 1 = some (Block.row ⟨72, 14, AskR.cells a.good gn gd, false, false⟩)) rfl rfl (fun M' h => by show pureV (loadA Try.prog 72 (.ptr ⟨S.length + 1, 1, 0⟩) M') M' = _; rw [kL h]; rfl) (gt1) ?_
  simp only [go_sem, decide_true, if_true, Bool.true_and]
  refine AD_call rfl rfl rfl (same59 (a := a.good) (b := a.good) ⟨xn, xd, rfl, tx, dx⟩ ⟨gn, gd, rfl, p3.rh, q3⟩ (by omega)) fun v M1 hd1 h1 => ?_
  obtain ⟨hv, hM⟩ := h1; rw [decide_eq_true rfl] at hv; subst hv; subst hM
  refine ⟨⟨fun _ => gt1, fun _ => gt2, trivial⟩, ?_⟩
  simp only [go_sem, decide_true, if_true, Bool.true_and]
  refine AD_read (v := .agg (a.good.cells xn xd)) (fun M' => M'.get (S.length + 1) 2 = some (Block.row ⟨72, 14, AskR.cells a.good xn xd, false, false⟩)) rfl rfl (fun M' h => by show pureV (loadA Try.prog 72 (.ptr ⟨S.length + 1, 2, 0⟩) M') M' = _; rw [kL h]; rfl) (gt2) ?_
  simp only [go_sem, decide_true, if_true, Bool.true_and]
  refine AD_read (v := .agg (a.good.cells gn gd)) (fun M' => M'.get (S.length + 1) 1 = some (Block.row ⟨72, 14, AskR.cells a.good gn gd, false, false⟩)) rfl rfl (fun M' h => by show pureV (loadA Try.prog 72 (.ptr ⟨S.length + 1, 1, 0⟩) M') M' = _; rw [kL h]; rfl) (gt1) ?_
  simp only [go_sem, decide_true, if_true, Bool.true_and]
  refine AD_call rfl rfl rfl (same58 (a := a.good) (b := a.good) ⟨xn, xd, rfl, tx, dx⟩ ⟨gn, gd, rfl, p3.rh, q3⟩ (by omega)) fun v M1 hd1 h1 => ?_
  obtain ⟨hv, hM⟩ := h1; rw [decide_eq_true rfl] at hv; subst hv; subst hM
  refine ⟨⟨fun _ => gt1, fun _ => gt2, fun _ => gt1, fun _ => gt2, trivial⟩, ?_⟩
  simp only [go_sem, decide_true, if_true, Bool.true_and]
  refine AD_read (v := .ptr ⟨S.length + 1, 1, 1⟩) (fun M' => M'.get (S.length + 1) 1 = some (Block.row ⟨72, 14, AskR.cells a.good gn gd, false, false⟩)) rfl rfl (fun M' h => by show pureV (fieldAddrA Try.prog 72 (.ptr ⟨S.length + 1, 1, 0⟩) 1 M') M' = _; rw [ka1 h]; rfl) (gt1) ?_
  simp only [go_sem, decide_true, if_true, Bool.true_and]
  refine AD_read (v := .int .i64 a.good.tag) (fun M' => M'.get (S.length + 1) 1 = some (Block.row ⟨72, 14, AskR.cells a.good gn gd, false, false⟩)) rfl rfl (fun M' h => by show pureV (loadA Try.prog 3 (.ptr ⟨S.length + 1, 1, 1⟩) M') M' = _; rw [kl1 h]; rfl) (gt1) ?_
  simp only [go_sem, decide_true, if_true, Bool.true_and]
  refine AD_call rfl rfl rfl (tag74 (b2.new u3) hgm) fun v M1 hd1 h1 => ?_
  obtain ⟨hv, G4, rfl, u4⟩ := h1; subst hv
  refine ⟨⟨fun _ => gt1, fun _ => gt1, fun _ => gt1, fun _ => gt2, fun _ => gt1, fun _ => gt2, trivial⟩, ?_⟩
  simp only [go_sem, decide_true, if_true, Bool.true_and]
  refine AD_call rfl rfl rfl (lives57) fun v M1 hd1 h1 => ?_
  obtain ⟨hv, hM⟩ := h1; subst hv; subst hM
  refine ⟨⟨fun _ => gt1, fun _ => gt1, fun _ => gt1, fun _ => gt2, fun _ => gt1, fun _ => gt2, trivial⟩, ?_⟩
  simp only [go_sem, decide_true, if_true, Bool.true_and]
  exact W_ret ⟨.inr rfl, _, rfl, rfl, rfl⟩
end
end Go.Proofs.Ytlpcbfndjffpfaa
