/- The walk through fids. -/
import Derived.Test.YtcjdckoabinndaaTy
import Derived.Test.YtcjdckoabinndaaAbs26
set_option maxRecDepth 100000
set_option maxHeartbeats 4000000
set_option linter.unusedSimpArgs false
set_option linter.unusedVariables false
namespace Go.Proofs.Ytcjdckoabinndaa
open Go.Abs
theorem mixed : Try.prog.follows .mixedOrders = true := by kernel_rfl
/-- What a fid stands for. -/
def FidV (x : AV) : Prop := ∃ cs, x = .agg cs ∧ cs.all AV.st = true ∧ cs.length = 10
def fid0 : AV := .agg [(.int .i64 0), (.int .i64 0), (.int .i64 0), (.int .i64 0), (.str []), (.bool false), (.bool false), (.int .i64 0), (.int .i64 0), (.int .i64 0)]
theorem fidV0 : FidV fid0 := ⟨_, rfl, rfl, rfl⟩
theorem FidV.lev0 {x : AV} (h : FidV x) : x.lev0 = true := by
  obtain ⟨cs, rfl, h1, _⟩ := h
  exact lev0s_of_all h1
/-- The fids lie in memory: the bound, and the map of the numbers. -/
structure Fids (M : Mem) (ix mi most : Nat) (es : KV) : Prop where
  r : M.get 0 ix = some (.row ⟨101, 2, [.int .i64 most, .map mi], false, false⟩)
  m : M.get 0 mi = some (.map (kv .i64 es))
  v : ∀ e ∈ es, FidV e.2
theorem Fids.row {M : Mem} {ix mi most : Nat} {es : KV} (h : Fids M ix mi most es) {off : Nat} : getRow M ⟨0, ix, off⟩ = some ⟨101, 2, [.int .i64 most, .map mi], false, false⟩ := by simp only [getRow, h.r]
theorem Fids.a1 {M : Mem} {ix mi most : Nat} {es : KV} (h : Fids M ix mi most es) : fieldAddrA Try.prog 101 (.ptr ⟨0, ix, 0⟩) 1 M = some (.ptr ⟨0, ix, 1⟩) := field_addr (off := 1) ti101 rfl rfl ti99 (h.row (off := 0))
theorem Fids.a0 {M : Mem} {ix mi most : Nat} {es : KV} (h : Fids M ix mi most es) : fieldAddrA Try.prog 101 (.ptr ⟨0, ix, 0⟩) 0 M = some (.ptr ⟨0, ix, 0⟩) := field_addr (off := 0) ti101 rfl rfl ti3 (h.row (off := 0))
theorem Fids.l1 {M : Mem} {ix mi most : Nat} {es : KV} (h : Fids M ix mi most es) : loadA Try.prog 99 (.ptr ⟨0, ix, 1⟩) M = some (.map mi) := by rw [load_one ti99 rfl h.row]; rfl
theorem Fids.l0 {M : Mem} {ix mi most : Nat} {es : KV} (h : Fids M ix mi most es) : loadA Try.prog 3 (.ptr ⟨0, ix, 0⟩) M = some (.int .i64 most) := by rw [load_one ti3 rfl h.row]; rfl
theorem Fids.look {M : Mem} {ix mi most : Nat} {es : KV} (h : Fids M ix mi most es) {n : Int} : lookupA Try.prog 99 (.map mi) (.int .i64 n) true M = some (.tup [(getK es n).getD fid0, .bool (getK es n).isSome]) := lookup_kv ti99 rfl ti3 rfl ti32 h.m
theorem Fids.len {M : Mem} {ix mi most : Nat} {es : KV} (h : Fids M ix mi most es) : lenA Try.prog 99 (.map mi) M = some (.int .i64 es.length) := len_kv ti99 rfl h.m
theorem Fids.put {M : Mem} {ix mi most : Nat} {es : KV} (h : Fids M ix mi most es) {n : Int} {x : AV} (hx : FidV x) : updates Try.prog 99 (.map mi) (.int .i64 n) x M = some (.undef, M.set 0 mi (.map (kv .i64 (putK es n x)))) := put_kv ti99 rfl ti3 rfl hx.lev0 h.m
theorem Fids.del {M : Mem} {ix mi most : Nat} {es : KV} (h : Fids M ix mi most es) {n : Int} : deletes Try.prog 99 (.map mi) (.int .i64 n) M = some (.tup [], M.set 0 mi (.map (kv .i64 (delK es n)))) := del_kv ti99 rfl ti3 rfl h.m
theorem Fids.to {H : List Block} {S S' : List (List Block)} {ix mi most : Nat} {es : KV} (h : Fids ⟨H, S⟩ ix mi most es) : Fids ⟨H, S'⟩ ix mi most es := ⟨by have := h.r; simp only [mem_get0] at *; exact this, by have := h.m; simp only [mem_get0] at *; exact this, h.v⟩
theorem Fids.set {H : List Block} {S S' : List (List Block)} {ix mi most : Nat} {es es' : KV} (h : Fids ⟨H, S⟩ ix mi most es) (hv : ∀ e ∈ es', FidV e.2) : Fids ⟨H.set mi (.map (kv .i64 es')), S'⟩ ix mi most es' := by
  have h1 := h.r
  have h2 := h.m
  simp only [mem_get0] at h1 h2
  have hne : mi ≠ ix := by rintro rfl; rw [h1] at h2; cases h2
  refine ⟨?_, ?_, hv⟩
  · simp only [mem_get0]; rw [List.getElem?_set_ne hne]; exact h1
  · simp only [mem_get0]; rw [List.getElem?_set_self (List.getElem?_eq_some_iff.1 h2).1]
theorem pos_mem {n : Int} : ∀ {es : KV} {i j : Nat} {x : AV}, pos n es i = some (j, x) → (n, x) ∈ es
  | [], i, j, x, h => by cases h
  | e :: es, i, j, x, h => by
    unfold pos at h
    split at h
    · rename_i he; cases h; subst he; exact List.mem_cons_self
    · exact List.mem_cons_of_mem _ (pos_mem h)
theorem getK_fid {es : KV} {n : Int} (hv : ∀ e ∈ es, FidV e.2) : FidV ((getK es n).getD fid0) := by
  unfold getK
  cases h : pos n es 0 with
  | none => exact fidV0
  | some p => obtain ⟨j, x⟩ := p; exact hv _ (pos_mem h)
theorem putK_fid {es : KV} {n : Int} {x : AV} (hx : FidV x) (hv : ∀ e ∈ es, FidV e.2) : ∀ e ∈ putK es n x, FidV e.2 := by
  intro e he
  unfold putK at he
  split at he
  · rcases List.mem_or_eq_of_mem_set he with h | rfl
    · exact hv e h
    · exact hx
  · rcases List.mem_append.1 he with h | h
    · exact hv e h
    · simp only [List.mem_singleton] at h; subst h; exact hx
theorem delK_fid {es : KV} {n : Int} (hv : ∀ e ∈ es, FidV e.2) : ∀ e ∈ delK es n, FidV e.2 := by
  intro e he
  unfold delK at he
  split at he
  · exact hv e (List.mem_of_mem_eraseIdx he)
  · exact hv e he
/-- May a number be added? -/
def freeF (most : Nat) (es : KV) (n : Int) : Int := if (getK es n).isSome = true then 18 else if most ≤ es.length then 5 else 0
section
variable {H : List Block} {S : List (List Block)} {ix mi most : Nat} {es : KV} {n : Int} {x : AV}
theorem free (h : Fids ⟨H, S⟩ ix mi most es) : AC Try.prog 48 [.ptr ⟨0, ix, 0⟩, .int .i64 n] ⟨H, S⟩ (fun v M' => v = .int .i64 (freeF most es n) ∧ M' = ⟨H, S⟩) := by
  refine AC_of_WE Try.func48 rfl ?_
  simp only [Try.ntmps48, List.length_cons, List.length_nil, List.replicate, List.cons_append, List.nil_append, mem_enter]
  (repeat refine W_seq ?_); refine W_regionT [] ?_
  simp only [go_sem]
  (repeat refine W_seq ?_); refine W_regionT [] ?_
  have h1 : Fids ⟨H, [] :: S⟩ ix mi most es := h.to
  obtain ⟨cs, hc, hc2, hc3⟩ := getK_fid (n := n) h.v
  simp only [go_sem, h1.a1, h1.l1, h1.look, alloc_agg (M := ⟨H, [] :: S⟩) ti32 rfl rfl rfl (by decide), hc]
  rw [store_all ti32 (top_row rfl) rfl rfl rfl rfl rfl hc3 hc2]
  simp only [go_sem]
  (repeat refine W_seq ?_); refine W_regionT [] ?_
  simp only [go_sem]
  refine W_cond_if rfl (fun hb => ?_) (fun hb => ?_)
  · (repeat refine W_seq ?_); refine W_regionT [] ?_
    simp only [go_sem]
    refine W_ret ⟨.inr rfl, _, rfl, rfl, ?_, rfl⟩
    simp only [freeF, hb, if_true]; rfl
  refine W_skip ?_
  simp only [go_sem]
  generalize hF : ([Block.row _] : List Block) = Fr
  have h2 : Fids ⟨H, Fr :: S⟩ ix mi most es := h.to
  (repeat refine W_seq ?_); refine W_regionC [] [] [0, 1, 2, 3, 4, 5, 6, 7, 8, 9] [0, 1, 3, 7, 15, 0, 32, 96, 224, 511] mixed (by kernel_rfl) (by kernel_rfl) (by kernel_rfl) (by kernel_rfl) ?_
  simp only [listed, go_sem, h2.a1, h2.l1, h2.len, h2.a0, h2.l0, List.map_cons, List.map_nil]
  (repeat refine W_seq ?_)
  refine W_cond_if rfl (fun hc => ?_) (fun hc => ?_)
  · (repeat refine W_seq ?_); refine W_regionT [] ?_
    simp only [go_sem]
    refine W_ret ⟨.inr rfl, _, rfl, rfl, ?_, rfl⟩
    have : most ≤ es.length := by simpa using hc
    simp only [freeF, hb, this, if_true]; rfl
  refine W_skip ?_
  simp only [go_sem]
  (repeat refine W_seq ?_); refine W_regionT [] ?_
  simp only [go_sem]
  refine W_ret ⟨.inr rfl, _, rfl, rfl, ?_, rfl⟩
  have : ¬ most ≤ es.length := by simpa using hc
  simp only [freeF, hb, this, if_false]; rfl
theorem add (h : Fids ⟨H, S⟩ ix mi most es) (hx : FidV x) : AC Try.prog 16 [.ptr ⟨0, ix, 0⟩, .int .i64 n, x] ⟨H, S⟩ (fun v M' => v = .int .i64 (freeF most es n) ∧ M' = ⟨if freeF most es n = 0 then H.set mi (.map (kv .i64 (putK es n x))) else H, S⟩) := by
  refine AC_of_WE Try.func16 rfl ?_
  simp only [Try.ntmps16, List.length_cons, List.length_nil, List.replicate, List.cons_append, List.nil_append, mem_enter]
  obtain ⟨cx, rfl, hx2, hx3⟩ := hx
  (repeat refine W_seq ?_); refine W_regionT [] ?_
  simp only [go_sem, box_agg (M := ⟨H, [] :: S⟩) ti32 hx2 hx3 (by decide)]
  (repeat refine W_seq ?_); refine W_regionT [] ?_
  simp only [go_sem]
  refine AT_call rfl rfl (free h.to) fun v M1 hd ⟨hv, hM⟩ => ?_
  subst hv; subst hM
  simp only [go_sem]
  (repeat refine W_seq ?_); refine W_regionT [] ?_
  simp only [go_sem]
  (repeat refine W_seq ?_)
  have h2 : Fids ⟨H, [Block.row ⟨32, 10, cx, false, false⟩] :: S⟩ ix mi most es := h.to
  refine W_cond_if rfl (fun hb => ?_) (fun hb => ?_)
  · have hb' : freeF most es n = 0 := by simpa using hb
    (repeat refine W_seq ?_); refine W_regionC [] [6] [0, 1, 2, 3, 4, 5, 6] [0, 1, 3, 7, 0, 0, 63] mixed (by kernel_rfl) (by kernel_rfl) (by kernel_rfl) (by kernel_rfl) ?_
    simp only [listed, go_sem, h2.a1, h2.l1, List.map_cons, List.map_nil]
    rw [load_all ti32 rfl (top_row rfl) rfl rfl hx3]
    simp only [go_sem]
    rw [h2.put ⟨cx, rfl, hx2, hx3⟩]
    simp only [go_sem]
    (repeat refine W_seq ?_); refine W_regionT [] ?_
    simp only [go_sem]
    refine W_ret ⟨.inr rfl, _, rfl, rfl, rfl, ?_⟩
    simp only [go_sem, hb', if_true]
  · have hb' : ¬ freeF most es n = 0 := by simpa using hb
    refine W_skip ?_
    simp only [go_sem]
    (repeat refine W_seq ?_); refine W_regionT [] ?_
    simp only [go_sem]
    refine W_ret ⟨.inr rfl, _, rfl, rfl, rfl, ?_⟩
    simp only [go_sem, hb', if_false]
theorem get (h : Fids ⟨H, S⟩ ix mi most es) : AC Try.prog 23 [.ptr ⟨0, ix, 0⟩, .int .i64 n] ⟨H, S⟩ (fun v M' => v = .tup [(getK es n).getD fid0, .int .i64 (if (getK es n).isSome = true then 0 else 17)] ∧ M' = ⟨H, S⟩) := by
  refine AC_of_WE Try.func23 rfl ?_
  simp only [Try.ntmps23, List.length_cons, List.length_nil, List.replicate, List.cons_append, List.nil_append, mem_enter]
  obtain ⟨cs, hc, hc2, hc3⟩ := getK_fid (n := n) h.v
  have hz : (getK es n).isSome = false → fid0 = .agg cs := by
    intro hn
    cases hg : getK es n with
    | none => rw [hg] at hc; exact hc
    | some y => rw [hg] at hn; cases hn
  rw [hc]
  (repeat refine W_seq ?_); refine W_regionT [] ?_
  simp only [go_sem, alloc_agg (M := ⟨H, [] :: S⟩) ti32 rfl rfl rfl (by decide)]
  generalize hz0 : ([.int .i64 0, .int .i64 0, .int .i64 0, .int .i64 0, .str [], .bool false, .bool false, .int .i64 0, .int .i64 0, .int .i64 0] : List AV) = z0
  have hz1 : z0.length = 10 := by rw [← hz0]; rfl
  have hz2 : z0.all AV.st = true := by rw [← hz0]; rfl
  have h1 : Fids ⟨H, [Block.row ⟨32, 10, z0, false, false⟩] :: S⟩ ix mi most es := h.to
  (repeat refine W_seq ?_); refine W_regionT [] ?_
  simp only [go_sem, h1.a1, h1.l1, h1.look, alloc_agg (M := ⟨H, [Block.row ⟨32, 10, z0, false, false⟩] :: S⟩) ti32 rfl rfl rfl (by decide), hc]
  rw [store_all ti32 (top_row rfl) rfl rfl rfl rfl rfl hc3 hc2]
  simp only [go_sem]
  (repeat refine W_seq ?_); refine W_regionT [] ?_
  simp only [go_sem]
  (repeat refine W_seq ?_)
  refine W_cond_if rfl (fun hb => ?_) (fun hb => ?_)
  · have hb' : (getK es n).isSome = false := by simpa using hb
    have hcz := hz hb'
    (repeat refine W_seq ?_); refine W_regionT [] ?_
    simp only [go_sem]
    have e1 : buildA Try.prog 32 [] = some (.agg cs) := by
      rw [← hcz]; unfold buildA; simp only [ti32]; rfl
    simp only [go_sem, e1]
    rw [store_all ti32 (top_row rfl) rfl rfl rfl rfl hz1 hc3 hc2]
    simp only [go_sem]
    refine W_ret ⟨.inr rfl, [.agg cs, .int .i64 17], ?_, ?_, ?_, rfl⟩
    · simp only [resE, Try.f23]
      simp only [go_sem]
      rw [load_all ti32 rfl (top_row rfl) rfl rfl hc3]
    · simp only [oneOr, AV.lev0, lev0s, Bool.and_true]
      exact lev0s_of_all hc2
    · simp only [oneOr, hb', Bool.false_eq_true, if_false]
  refine W_skip ?_
  have hb' : (getK es n).isSome = true := by simpa using hb
  simp only [go_sem]
  (repeat refine W_seq ?_); refine W_regionT [] ?_
  simp only [go_sem]
  rw [load_all ti32 rfl (top_row rfl) rfl rfl hc3]
  simp only [go_sem]
  rw [store_all ti32 (top_row rfl) rfl rfl rfl rfl hz1 hc3 hc2]
  simp only [go_sem]
  refine W_ret ⟨.inr rfl, [.agg cs, .int .i64 0], ?_, ?_, ?_, rfl⟩
  · simp only [resE, Try.f23]
    simp only [go_sem]
    rw [load_all ti32 rfl (top_row rfl) rfl rfl hc3]
  · simp only [oneOr, AV.lev0, lev0s, Bool.and_true]
    exact lev0s_of_all hc2
  · simp only [oneOr, hb', if_true]
theorem drop (h : Fids ⟨H, S⟩ ix mi most es) : AC Try.prog 22 [.ptr ⟨0, ix, 0⟩, .int .i64 n] ⟨H, S⟩ (fun v M' => v = .int .i64 (if (getK es n).isSome = true then 0 else 17) ∧ M' = ⟨H.set mi (.map (kv .i64 (delK es n))), S⟩) := by
  refine AC_of_WE Try.func22 rfl ?_
  simp only [Try.ntmps22, List.length_cons, List.length_nil, List.replicate, List.cons_append, List.nil_append, mem_enter]
  obtain ⟨cs, hc, hc2, hc3⟩ := getK_fid (n := n) h.v
  (repeat refine W_seq ?_); refine W_regionT [] ?_
  simp only [go_sem]
  (repeat refine W_seq ?_); refine W_regionT [] ?_
  simp only [go_sem]
  refine AT_call rfl rfl (get h.to) fun v M1 hd ⟨hv, hM⟩ => ?_
  subst hv; subst hM
  simp only [go_sem, alloc_agg (M := ⟨H, [] :: S⟩) ti32 rfl rfl rfl (by decide), hc]
  rw [store_all ti32 (top_row rfl) rfl rfl rfl rfl rfl hc3 hc2]
  simp only [go_sem]
  have h2 : Fids ⟨H, [Block.row ⟨32, 10, cs, false, false⟩] :: S⟩ ix mi most es := h.to
  (repeat refine W_seq ?_); refine W_regionT [] ?_
  simp only [go_sem, h2.a1, h2.l1, h2.del]
  (repeat refine W_seq ?_); refine W_regionT [] ?_
  simp only [go_sem]
  exact W_ret ⟨.inr rfl, _, rfl, rfl, rfl, rfl⟩
theorem setF (h : Fids ⟨H, S⟩ ix mi most es) (hx : FidV x) : AC Try.prog 29 [.ptr ⟨0, ix, 0⟩, .int .i64 n, x] ⟨H, S⟩ (fun v M' => v = .int .i64 (if (getK es n).isSome = true then 0 else 17) ∧ M' = ⟨if (getK es n).isSome = true then H.set mi (.map (kv .i64 (putK es n x))) else H, S⟩) := by
  refine AC_of_WE Try.func29 rfl ?_
  simp only [Try.ntmps29, List.length_cons, List.length_nil, List.replicate, List.cons_append, List.nil_append, mem_enter]
  obtain ⟨cx, rfl, hx2, hx3⟩ := hx
  obtain ⟨cs, hc, hc2, hc3⟩ := getK_fid (n := n) h.v
  (repeat refine W_seq ?_); refine W_regionT [] ?_
  simp only [go_sem, box_agg (M := ⟨H, [] :: S⟩) ti32 hx2 hx3 (by decide)]
  (repeat refine W_seq ?_); refine W_regionT [] ?_
  simp only [go_sem]
  refine AT_call rfl rfl (get h.to) fun v M1 hd ⟨hv, hM⟩ => ?_
  subst hv; subst hM
  simp only [go_sem, alloc_agg (M := ⟨H, [Block.row ⟨32, 10, cx, false, false⟩] :: S⟩) ti32 rfl rfl rfl (by decide), hc]
  rw [store_all ti32 (top_row rfl) rfl rfl rfl rfl rfl hc3 hc2]
  simp only [go_sem]
  (repeat refine W_seq ?_); refine W_regionT [] ?_
  simp only [go_sem]
  (repeat refine W_seq ?_)
  have h2 : Fids ⟨H, [Block.row ⟨32, 10, cx, false, false⟩, Block.row ⟨32, 10, cs, false, false⟩] :: S⟩ ix mi most es := h.to
  refine W_cond_if rfl (fun hb => ?_) (fun hb => ?_)
  · have hb' : (getK es n).isSome = true := by
      by_cases hh : (getK es n).isSome = true
      · exact hh
      · rw [if_neg hh] at hb; cases hb
    (repeat refine W_seq ?_); refine W_regionC [] [6] [0, 1, 2, 3, 4, 5, 6] [0, 1, 3, 7, 0, 0, 63] mixed (by kernel_rfl) (by kernel_rfl) (by kernel_rfl) (by kernel_rfl) ?_
    simp only [listed, go_sem, h2.a1, h2.l1, List.map_cons, List.map_nil]
    rw [load_all ti32 rfl (top_row rfl) rfl rfl hx3]
    simp only [go_sem]
    rw [h2.put ⟨cx, rfl, hx2, hx3⟩]
    simp only [go_sem]
    (repeat refine W_seq ?_); refine W_regionT [] ?_
    simp only [go_sem]
    exact W_ret ⟨.inr rfl, _, rfl, rfl, rfl, by simp only [go_sem, hb', if_true]⟩
  · have hb' : ¬ (getK es n).isSome = true := by
      intro hh; rw [if_pos hh] at hb; cases hb
    refine W_skip ?_
    simp only [go_sem]
    (repeat refine W_seq ?_); refine W_regionT [] ?_
    simp only [go_sem]
    exact W_ret ⟨.inr rfl, _, rfl, rfl, rfl, by simp only [go_sem, hb', if_false]⟩
def newOK (k : Int) : Prop := 1 ≤ k ∧ k ≤ 16
instance (k : Int) : Decidable (newOK k) := by unfold newOK; infer_instance
theorem newF {k : Int} : AC Try.prog 15 [.int .i64 k] ⟨H, S⟩ (fun v M' => (newOK k ∧ v = .tup [.ptr ⟨0, H.length + 1, 0⟩, .int .i64 0] ∧ M' = ⟨H ++ [.map (kv .i64 []), .row ⟨101, 2, [.int .i64 (k.toNat : Nat), .map H.length], false, false⟩], S⟩) ∨ (¬ newOK k ∧ v = .tup [.nilptr, .int .i64 1] ∧ M' = ⟨H, S⟩)) := by
  refine AC_of_WE Try.func15 rfl ?_
  simp only [Try.ntmps15, List.length_cons, List.length_nil, List.replicate, List.cons_append, List.nil_append, mem_enter]
  (repeat refine W_seq ?_); refine W_regionT [] ?_
  simp only [go_sem]
  by_cases h1 : k < 1
  · have hn : ¬ newOK k := by unfold newOK; omega
    (repeat refine W_seq ?_); refine W_regionT [] ?_
    simp only [go_sem, h1]
    (repeat refine W_seq ?_)
    refine W_cond (b := true) rfl ?_
    simp only [if_true]
    (repeat refine W_seq ?_); refine W_regionT [] ?_
    simp only [go_sem]
    exact W_ret ⟨.inr rfl, _, rfl, rfl, .inr ⟨hn, rfl, rfl⟩⟩
  by_cases h2 : 16 < k
  · have hn : ¬ newOK k := by unfold newOK; omega
    (repeat refine W_seq ?_); refine W_regionT [] ?_
    simp only [go_sem, h1, h2]
    (repeat refine W_seq ?_)
    refine W_cond (b := true) rfl ?_
    simp only [if_true]
    (repeat refine W_seq ?_); refine W_regionT [] ?_
    simp only [go_sem]
    exact W_ret ⟨.inr rfl, _, rfl, rfl, .inr ⟨hn, rfl, rfl⟩⟩
  have hn : newOK k := by unfold newOK; omega
  (repeat refine W_seq ?_); refine W_regionT [] ?_
  simp only [go_sem, h1, h2]
  (repeat refine W_seq ?_)
  refine W_cond (b := false) rfl ?_
  simp only [Bool.false_eq_true, if_false]
  refine W_skip ?_
  simp only [go_sem]
  (repeat refine W_seq ?_); refine W_regionT [13] ?_
  have e1 : buildA Try.prog 101 [(0, .int .i64 k), (1, .map H.length)] = some (.agg [.int .i64 k, .map H.length]) := by
    unfold buildA; simp only [ti101]; rfl
  simp only [go_sem, e1, box_agg (vs := [.int .i64 k, .map H.length]) (M := ⟨H ++ [.map []], [] :: S⟩) ti101 rfl rfl (by decide), List.length_append, List.length_singleton]
  refine W_ret ⟨.inr rfl, _, rfl, rfl, .inl ⟨hn, rfl, ?_⟩⟩
  have hk : ((k.toNat : Nat) : Int) = k := by unfold newOK at hn; omega
  simp only [go_sem, hk, List.append_assoc]
  rfl
end
end Go.Proofs.Ytcjdckoabinndaa
