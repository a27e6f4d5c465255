/- The walk through mux. -/
import Derived.Test.YtcjdckoabinndaaTy
import Derived.Test.YtcjdckoabinndaaAbs26
set_option maxRecDepth 100000
set_option maxHeartbeats 4000000
set_option linter.unusedSimpArgs false
set_option linter.unusedVariables false
namespace Go.Proofs.Ytcjdckoabinndaa
open Go.Abs
theorem mixedM : Try.prog.follows .mixedOrders = true := by kernel_rfl
/-- A call that waits: its procedure, and what is kept with it. -/
def CallV (ok : AV → Prop) (x : AV) : Prop := ∃ p y, x = .agg [.int .u32 p, y] ∧ ok y
/-- Calls wait in memory: the next number, the bound, the map of the numbers. -/
structure MuxAt (R V : Nat) (ok : AV → Prop) (M : Mem) (ix mi : Nat) (next : Int) (most : Nat) (es : KV) : Prop where
  r : M.get 0 ix = some (.row ⟨R, 3, [.int .u32 next, .int .i64 most, .map mi], false, false⟩)
  m : M.get 0 mi = some (.map (kv .u32 es))
  v : ∀ e ∈ es, CallV ok e.2
  n : 0 ≤ next ∧ next < 4294967296
theorem nodup_le : ∀ {l k : List Int}, l.Nodup → (∀ x ∈ l, x ∈ k) → l.length ≤ k.length
  | [], k, _, _ => Nat.zero_le _
  | x :: l, k, hn, hs => by
    have hx : x ∈ k := hs x List.mem_cons_self
    obtain ⟨h1, h2⟩ := List.nodup_cons.1 hn
    have ih := nodup_le (l := l) (k := k.erase x) h2 fun y hy => (List.mem_erase_of_ne (by rintro rfl; exact h1 hy)).2 (hs y (List.mem_cons_of_mem _ hy))
    rw [List.length_erase_of_mem hx] at ih
    have : 0 < k.length := List.length_pos_of_mem hx
    simp only [List.length_cons]
    omega
theorem getK_mem {es : KV} {n : Int} : (getK es n).isSome = true → n ∈ es.map (·.1) := by
  have : ∀ (es : KV) (i : Nat), (pos n es i).isSome = true → n ∈ es.map (·.1) := by
    intro es
    induction es with
    | nil => intro i h; cases h
    | cons e es ih =>
      intro i h
      unfold pos at h
      split at h
      · rename_i he; subst he; exact List.mem_cons_self
      · exact List.mem_cons_of_mem _ (ih _ h)
  intro h
  unfold getK at h
  exact this es 0 (by simpa using h)
/-- So many numbers in a row wait: then as many wait at least. -/
theorem run_le {es : KV} {next : Int} {j : Nat} (hj : (j : Int) ≤ 4294967296) (h : ∀ i : Nat, i < j → (getK es ((next + i) % 4294967296)).isSome = true) : j ≤ es.length := by
  have h1 : ((List.range j).map fun i : Nat => (next + i) % 4294967296).Nodup := by
    rw [List.nodup_iff_pairwise_ne, List.pairwise_map]
    refine (List.nodup_range (n := j)).imp_of_mem fun {a b} ha hb hab => ?_
    simp only [List.mem_range] at ha hb
    intro he
    apply hab
    omega
  have h2 := nodup_le h1 (k := es.map (·.1)) (fun x hx => by
    simp only [List.mem_map, List.mem_range] at hx
    obtain ⟨i, hi, rfl⟩ := hx
    exact getK_mem (h i hi))
  simpa using h2
/-- The first number from 'next' on that no call has. -/
def Skips (es : KV) (next xid : Int) : Prop := ∃ j : Nat, j ≤ es.length ∧ xid = (next + j) % 4294967296 ∧ (∀ i : Nat, i < j → (getK es ((next + i) % 4294967296)).isSome = true) ∧ (getK es xid).isSome = false

/-- All but two blocks are as they were. -/
def Off (ix mi : Nat) (H H' : List Block) : Prop := H'.length = H.length ∧ ∀ k, k ≠ ix → k ≠ mi → H'[k]? = H[k]?
theorem Off.refl {ix mi : Nat} {H : List Block} : Off ix mi H H := ⟨rfl, fun _ _ _ => rfl⟩
theorem Off.set1 {ix mi : Nat} {H H' : List Block} {b : Block} (h : Off ix mi H H') : Off ix mi H (H'.set ix b) := ⟨by simp [h.1], fun k h1 h2 => by rw [List.getElem?_set_ne (Ne.symm h1)]; exact h.2 k h1 h2⟩
theorem Off.set2 {ix mi : Nat} {H H' : List Block} {b : Block} (h : Off ix mi H H') : Off ix mi H (H'.set mi b) := ⟨by simp [h.1], fun k h1 h2 => by rw [List.getElem?_set_ne (Ne.symm h2)]; exact h.2 k h1 h2⟩
theorem Off.trans {ix mi : Nat} {H H' H'' : List Block} (h : Off ix mi H H') (k : Off ix mi H' H'') : Off ix mi H H'' := ⟨k.1.trans h.1, fun i h1 h2 => (k.2 i h1 h2).trans (h.2 i h1 h2)⟩
theorem putK_v {P : AV → Prop} {es : KV} {n : Int} {x : AV} (hx : P x) (hv : ∀ e ∈ es, P e.2) : ∀ e ∈ putK es n x, P e.2 := by
  intro e he
  unfold putK at he
  split at he
  · rcases List.mem_or_eq_of_mem_set he with h | rfl
    · exact hv e h
    · exact hx
  · rcases List.mem_append.1 he with h | h
    · exact hv e h
    · simp only [List.mem_singleton] at h; subst h; exact hx
theorem delK_v {P : AV → Prop} {es : KV} {n : Int} (hv : ∀ e ∈ es, P e.2) : ∀ e ∈ delK es n, P e.2 := by
  intro e he
  unfold delK at he
  split at he
  · exact hv e (List.mem_of_mem_eraseIdx he)
  · exact hv e he

abbrev MuxI := MuxAt 104 106 (fun y => ∃ n, y = AV.int .i64 n)
section
variable {H : List Block} {S S' : List (List Block)} {M : Mem} {ix mi most : Nat} {next n : Int} {es es' : KV} {x : AV}
theorem mI_st {x : AV} (h : CallV (fun y => ∃ n, y = AV.int .i64 n) x) : ∃ p y, x = .agg [.int .u32 p, y] ∧ ([.int .u32 p, y] : List AV).all AV.st = true ∧ y.st = true ∧ y.cells = [y] := by
  obtain ⟨p, y, rfl, n, rfl⟩ := h
  exact ⟨p, _, rfl, rfl, rfl, rfl⟩
theorem mI_row (h : MuxI M ix mi next most es) {off : Nat} : getRow M ⟨0, ix, off⟩ = some ⟨104, 3, [.int .u32 next, .int .i64 most, .map mi], false, false⟩ := by simp only [getRow, h.r]
theorem mI_a0 (h : MuxI M ix mi next most es) : fieldAddrA Try.prog 104 (.ptr ⟨0, ix, 0⟩) 0 M = some (.ptr ⟨0, ix, 0⟩) := field_addr (off := 0) ti104 rfl rfl ti35 (mI_row h)
theorem mI_a1 (h : MuxI M ix mi next most es) : fieldAddrA Try.prog 104 (.ptr ⟨0, ix, 0⟩) 1 M = some (.ptr ⟨0, ix, 1⟩) := field_addr (off := 1) ti104 rfl rfl ti3 (mI_row h)
theorem mI_a2 (h : MuxI M ix mi next most es) : fieldAddrA Try.prog 104 (.ptr ⟨0, ix, 0⟩) 2 M = some (.ptr ⟨0, ix, 2⟩) := field_addr (off := 2) ti104 rfl rfl ti102 (mI_row h)
theorem mI_l0 (h : MuxI M ix mi next most es) : loadA Try.prog 35 (.ptr ⟨0, ix, 0⟩) M = some (.int .u32 next) := by rw [load_one ti35 rfl (mI_row h)]; rfl
theorem mI_l1 (h : MuxI M ix mi next most es) : loadA Try.prog 3 (.ptr ⟨0, ix, 1⟩) M = some (.int .i64 most) := by rw [load_one ti3 rfl (mI_row h)]; rfl
theorem mI_l2 (h : MuxI M ix mi next most es) : loadA Try.prog 102 (.ptr ⟨0, ix, 2⟩) M = some (.map mi) := by rw [load_one ti102 rfl (mI_row h)]; rfl
theorem mI_s0 (h : MuxI M ix mi next most es) {k : Int} : stores Try.prog 35 (.ptr ⟨0, ix, 0⟩) (.int .u32 k) M = some (.undef, M.set 0 ix (.row ⟨104, 3, [.int .u32 k, .int .i64 most, .map mi], false, false⟩)) := by
  rw [store_cell ti35 (mI_row h) rfl rfl rfl (by simp) rfl rfl]; rfl
theorem mI_look (h : MuxI M ix mi next most es) : lookupA Try.prog 102 (.map mi) (.int .u32 n) true M = some (.tup [(getK es n).getD (.agg [.int .u32 0, .int .i64 0]), .bool (getK es n).isSome]) := lookup_kv ti102 rfl ti35 rfl ti106 h.m
theorem mI_len (h : MuxI M ix mi next most es) : lenA Try.prog 102 (.map mi) M = some (.int .i64 es.length) := len_kv ti102 rfl h.m
theorem mI_put (h : MuxI M ix mi next most es) (hx : x.lev0 = true) : updates Try.prog 102 (.map mi) (.int .u32 n) x M = some (.undef, M.set 0 mi (.map (kv .u32 (putK es n x)))) := put_kv ti102 rfl ti35 rfl hx h.m
theorem mI_del (h : MuxI M ix mi next most es) : deletes Try.prog 102 (.map mi) (.int .u32 n) M = some (.tup [], M.set 0 mi (.map (kv .u32 (delK es n)))) := del_kv ti102 rfl ti35 rfl h.m
theorem mI_to (h : MuxI ⟨H, S⟩ ix mi next most es) : MuxI ⟨H, S'⟩ ix mi next most es := ⟨by have := h.r; simp only [mem_get0] at *; exact this, by have := h.m; simp only [mem_get0] at *; exact this, h.v, h.n⟩
theorem mI_ne (h : MuxI ⟨H, S⟩ ix mi next most es) : mi ≠ ix := by
  rintro rfl
  have h1 := h.r
  have h2 := h.m
  rw [h1] at h2; cases h2
theorem mI_set (h : MuxI ⟨H, S⟩ ix mi next most es) (hv : ∀ e ∈ es', CallV (fun y => ∃ n, y = AV.int .i64 n) e.2) : MuxI ⟨H.set mi (.map (kv .u32 es')), S'⟩ ix mi next most es' := by
  have hne := mI_ne h
  have h1 := h.r
  have h2 := h.m
  simp only [mem_get0] at h1 h2
  refine ⟨?_, ?_, hv, h.n⟩
  · simp only [mem_get0]; rw [List.getElem?_set_ne hne]; exact h1
  · simp only [mem_get0]; rw [List.getElem?_set_self (List.getElem?_eq_some_iff.1 h2).1]
theorem mI_next (h : MuxI ⟨H, S⟩ ix mi next most es) {k : Int} (hk : 0 ≤ k ∧ k < 4294967296) : MuxI ⟨H.set ix (.row ⟨104, 3, [.int .u32 k, .int .i64 most, .map mi], false, false⟩), S'⟩ ix mi k most es := by
  have hne := mI_ne h
  have h1 := h.r
  have h2 := h.m
  simp only [mem_get0] at h1 h2
  refine ⟨?_, ?_, h.v, hk⟩
  · simp only [mem_get0]; rw [List.getElem?_set_self (List.getElem?_eq_some_iff.1 h1).1]
  · simp only [mem_get0]; rw [List.getElem?_set_ne (Ne.symm hne)]; exact h2
theorem buildI {p : Int} {n : Int} : buildA Try.prog 106 [(0, .int .u32 p), (1, .int .i64 n)] = some (.agg [.int .u32 p, .int .i64 n]) := by
  unfold buildA; simp only [ti106]; rfl
theorem mI_getv (h : ∀ e ∈ es, CallV (fun y => ∃ n, y = AV.int .i64 n) e.2) : CallV (fun y => ∃ n, y = AV.int .i64 n) ((getK es n).getD (.agg [.int .u32 0, .int .i64 0])) := by
  have : ∀ (es : KV) (i : Nat), (∀ e ∈ es, CallV (fun y => ∃ n, y = AV.int .i64 n) e.2) → CallV (fun y => ∃ n, y = AV.int .i64 n) (((pos n es i).map (·.2)).getD (.agg [.int .u32 0, .int .i64 0])) := by
    intro es
    induction es with
    | nil => intro i _; exact ⟨_, _, rfl, _, rfl⟩
    | cons e es ih =>
      intro i h
      unfold pos
      split
      · exact h e List.mem_cons_self
      · exact ih _ fun x hx => h x (List.mem_cons_of_mem _ hx)
  exact this es 0 h
theorem hasI (h : MuxI ⟨H, S⟩ ix mi next most es) : AC Try.prog 30 [.ptr ⟨0, ix, 0⟩, .int .u32 n] ⟨H, S⟩ (fun v M' => v = .bool (getK es n).isSome ∧ M' = ⟨H, S⟩) := by
  refine AC_of_WE Try.func30 rfl ?_
  simp only [Try.ntmps30, List.length_cons, List.length_nil, List.replicate, List.cons_append, List.nil_append, mem_enter]
  obtain ⟨p, y, hc, hc2, hc3, hc4⟩ := mI_st (mI_getv (n := n) h.v)
  have h1 : MuxI ⟨H, [] :: S⟩ ix mi next most es := mI_to h
  (repeat refine W_seq ?_); refine W_regionT [] ?_
  simp only [go_sem]
  (repeat refine W_seq ?_); refine W_regionT [] ?_
  simp only [go_sem, mI_a2 h1, mI_l2 h1, mI_look h1, alloc_agg (M := ⟨H, [] :: S⟩) ti106 rfl rfl rfl (by decide), hc]
  rw [store_all ti106 (top_row rfl) rfl rfl rfl rfl rfl rfl hc2]
  simp only [go_sem]
  (repeat refine W_seq ?_); refine W_regionT [] ?_
  simp only [go_sem]
  exact W_ret ⟨.inr rfl, _, rfl, rfl, rfl, rfl⟩
theorem lenI (h : MuxI ⟨H, S⟩ ix mi next most es) : AC Try.prog 27 [.ptr ⟨0, ix, 0⟩] ⟨H, S⟩ (fun v M' => v = .int .i64 es.length ∧ M' = ⟨H, S⟩) := by
  refine AC_of_WE Try.func27 rfl ?_
  simp only [Try.ntmps27, List.length_cons, List.length_nil, List.replicate, List.cons_append, List.nil_append, mem_enter]
  have h1 : MuxI ⟨H, [] :: S⟩ ix mi next most es := mI_to h
  (repeat refine W_seq ?_); refine W_regionT [] ?_
  simp only [go_sem]
  (repeat refine W_seq ?_); refine W_regionT [] ?_
  simp only [go_sem, mI_a2 h1, mI_l2 h1, mI_len h1]
  exact W_ret ⟨.inr rfl, _, rfl, rfl, rfl, rfl⟩
theorem callI {p : Int} (h : MuxI ⟨H, S⟩ ix mi next most es) (hx : (fun y => ∃ n, y = AV.int .i64 n) x) (hb : es.length < 1000000) : AC Try.prog 19 [.ptr ⟨0, ix, 0⟩, .int .u32 p, x] ⟨H, S⟩ (fun v M' => (most ≤ es.length ∧ v = .tup [.int .u32 0, .int .i64 5] ∧ M' = ⟨H, S⟩) ∨ (es.length < most ∧ ∃ xid H', Skips es next xid ∧ v = .tup [.int .u32 xid, .int .i64 0] ∧ M' = ⟨H', S⟩ ∧ Off ix mi H H' ∧ MuxI ⟨H', S⟩ ix mi ((xid + 1) % 4294967296) most (putK es xid (.agg [.int .u32 p, x])))) := by
  refine AC_of_WE Try.func19 rfl ?_
  simp only [Try.ntmps19, List.length_cons, List.length_nil, List.replicate, List.cons_append, List.nil_append, mem_enter]
  have h1 : MuxI ⟨H, [] :: S⟩ ix mi next most es := mI_to h
  (repeat refine W_seq ?_); refine W_regionT [] ?_
  simp only [go_sem]
  (repeat refine W_seq ?_); refine W_regionC [] [] [0, 1, 2, 3, 4, 5, 6, 7, 8, 9] [0, 1, 3, 7, 15, 0, 32, 96, 224, 511] mixedM (by kernel_rfl) (by kernel_rfl) (by kernel_rfl) (by kernel_rfl) ?_
  simp only [listed, go_sem, mI_a2 h1, mI_l2 h1, mI_len h1, mI_a1 h1, mI_l1 h1, List.map_cons, List.map_nil]
  (repeat refine W_seq ?_)
  refine W_cond_if rfl (fun hc => ?_) (fun hc => ?_)
  · have hc' : most ≤ es.length := by simpa using hc
    (repeat refine W_seq ?_); refine W_regionT [] ?_
    simp only [go_sem]
    exact W_ret ⟨.inr rfl, _, rfl, rfl, .inl ⟨hc', rfl, rfl⟩⟩
  have hc' : es.length < most := by simp at hc; omega
  refine W_skip ?_
  simp only [go_sem]
  (repeat refine W_seq ?_)
  refine W_block (W_loop (L_inv (fun j env M' => ∃ (x3 x4 x5 x6 x7 x8 x9 x10 x11 x12 x13 x14 x15 x16 x17 x18 x19 x20 x21 x22 x23 x24 x25 x26 x27 x28 x29 x30 x31 x32 x33 x34 x35 x36 x37 x38 x39 x40 x41 x42 x43 x44 x45 x46 x47 x48 x49 x50 x51 : AV) (i : Nat) (H1 : List Block), env = [.ptr ⟨0, ix, 0⟩, .int .u32 p, x, x3, x4, x5, x6, x7, x8, x9, x10, x11, x12, x13, x14, x15, x16, x17, x18, x19, x20, x21, x22, x23, x24, x25, x26, x27, x28, x29, x30, x31, x32, x33, x34, x35, x36, x37, x38, x39, x40, x41, x42, x43, x44, x45, x46, x47, x48, x49, x50, x51] ∧ i + j = es.length + 1 ∧ i ≤ es.length ∧ (∀ i' : Nat, i' < i → (getK es ((next + i') % 4294967296)).isSome = true) ∧ M' = ⟨H1, [] :: S⟩ ∧ Off ix mi H H1 ∧ MuxI ⟨H1, [] :: S⟩ ix mi ((next + i) % 4294967296) most es) (fun j env M2 => ?_) (es.length + 1) ?_))
  case refine_2 => exact ⟨_, _, _, _, _, _, _, _, _, _, _, _, _, _, _, _, _, _, _, _, _, _, _, _, _, _, _, _, _, _, _, _, _, _, _, _, _, _, _, _, _, _, _, _, _, _, _, _, _, 0, H, rfl, by omega, Nat.zero_le _, fun i' hi => by omega, rfl, Off.refl, by have hn := h.n; rw [show (next + ((0 : Nat) : Int)) % 4294967296 = next by omega]; exact h1⟩
  rintro ⟨x3, x4, x5, x6, x7, x8, x9, x10, x11, x12, x13, x14, x15, x16, x17, x18, x19, x20, x21, x22, x23, x24, x25, x26, x27, x28, x29, x30, x31, x32, x33, x34, x35, x36, x37, x38, x39, x40, x41, x42, x43, x44, x45, x46, x47, x48, x49, x50, x51, i, H1, rfl, hij, hil, hall, rfl, hoff, h2⟩
  (repeat refine W_seq ?_); refine W_regionT [] ?_
  simp only [go_sem, mI_a0 h2, mI_l0 h2]
  refine AT_call rfl rfl (hasI (mI_to h2)) fun v M1 hd1 ⟨hv, hM⟩ => ?_
  subst hv; subst hM
  simp only [go_sem]
  (repeat refine W_seq ?_)
  refine W_cond_if rfl (fun hb1 => ?_) (fun hb1 => ?_)
  · have hall' : ∀ i' : Nat, i' < i + 1 → (getK es ((next + i') % 4294967296)).isSome = true := fun i' hi => by
      rcases Nat.lt_or_ge i' i with hlt | hge
      · exact hall i' hlt
      · have : i' = i := by omega
        subst this; exact hb1
    have hle := run_le (j := i + 1) (by omega) hall'
    refine W_skip ?_
    simp only [go_sem]
    refine W_block ?_
    (repeat refine W_seq ?_); refine W_regionT [] ?_
    have e1 : IntKind.wrap .u32 ((next + i) % 4294967296 + 1) = (next + ((i + 1 : Nat) : Int)) % 4294967296 := by rw [wrap_u32]; omega
    simp only [go_sem, mI_a0 h2, mI_l0 h2, e1, mI_s0 h2]
    exact ⟨j - 1, by omega, _, _, _, _, _, _, _, _, _, _, _, _, _, _, _, _, _, _, _, _, _, _, _, _, _, _, _, _, _, _, _, _, _, _, _, _, _, _, _, _, _, _, _, _, _, _, _, _, _, i + 1, _, rfl, by omega, hle, hall', rfl, hoff.set1, mI_next h2 (by omega)⟩
  · refine W_exit ?_
    simp only [go_sem]
    (repeat refine W_seq ?_); refine W_regionT [] ?_
    simp only [go_sem, mI_a0 h2, mI_l0 h2]
    (repeat refine W_seq ?_); refine W_regionT [] ?_
    have e1 : IntKind.wrap .u32 ((next + i) % 4294967296 + 1) = ((next + i) % 4294967296 + 1) % 4294967296 := by rw [wrap_u32]
    simp only [go_sem, mI_a0 h2, mI_l0 h2, e1, mI_s0 h2]
    have h3 := mI_next (S' := [] :: S) h2 (k := ((next + i) % 4294967296 + 1) % 4294967296) (by omega)
    have hv := hx
    obtain ⟨n0, rfl⟩ := hx
    (repeat refine W_seq ?_); refine W_regionT [] ?_
    simp only [go_sem, mI_a2 h3, mI_l2 h3, buildI]
    rw [mI_put h3 (x := .agg [.int .u32 p, .int .i64 n0]) rfl]
    simp only [go_sem]
    (repeat refine W_seq ?_); refine W_regionT [] ?_
    simp only [go_sem]
    refine W_ret ⟨.inr rfl, _, rfl, rfl, .inr ⟨hc', _, _, ⟨i, hil, rfl, hall, by simpa using hb1⟩, rfl, rfl, hoff.set1.set2, mI_set h3 (putK_v ⟨_, _, rfl, hv⟩ h.v)⟩⟩
theorem newI {k : Int} (hn : 0 ≤ next ∧ next < 4294967296) : AC Try.prog 18 [.int .u32 next, .int .i64 k] ⟨H, S⟩ (fun v M' => (1 ≤ k ∧ k ≤ 16 ∧ ∃ H', v = .tup [.ptr ⟨0, H.length + 1, 0⟩, .int .i64 0] ∧ M' = ⟨H ++ H', S⟩ ∧ MuxI ⟨H ++ H', S⟩ (H.length + 1) H.length next k.toNat []) ∨ (¬ (1 ≤ k ∧ k ≤ 16) ∧ v = .tup [.nilptr, .int .i64 1] ∧ M' = ⟨H, S⟩)) := by
  refine AC_of_WE Try.func18 rfl ?_
  simp only [Try.ntmps18, List.length_cons, List.length_nil, List.replicate, List.cons_append, List.nil_append, mem_enter]
  (repeat refine W_seq ?_); refine W_regionT [] ?_
  simp only [go_sem]
  by_cases h1 : k < 1
  · (repeat refine W_seq ?_); refine W_regionT [] ?_
    simp only [go_sem, h1]
    (repeat refine W_seq ?_)
    refine W_cond (b := true) rfl ?_
    simp only [if_true]
    (repeat refine W_seq ?_); refine W_regionT [] ?_
    simp only [go_sem]
    exact W_ret ⟨.inr rfl, _, rfl, rfl, .inr ⟨by omega, rfl, rfl⟩⟩
  by_cases h2 : 16 < k
  · (repeat refine W_seq ?_); refine W_regionT [] ?_
    simp only [go_sem, h1, h2]
    (repeat refine W_seq ?_)
    refine W_cond (b := true) rfl ?_
    simp only [if_true]
    (repeat refine W_seq ?_); refine W_regionT [] ?_
    simp only [go_sem]
    exact W_ret ⟨.inr rfl, _, rfl, rfl, .inr ⟨by omega, rfl, rfl⟩⟩
  (repeat refine W_seq ?_); refine W_regionT [] ?_
  simp only [go_sem, h1, h2]
  (repeat refine W_seq ?_)
  refine W_cond (b := false) rfl ?_
  simp only [Bool.false_eq_true, if_false]
  refine W_skip ?_
  simp only [go_sem]
  (repeat refine W_seq ?_); refine W_regionT [16] ?_
  have e1 : buildA Try.prog 104 [(0, .int .u32 next), (1, .int .i64 k), (2, .map H.length)] = some (.agg [.int .u32 next, .int .i64 k, .map H.length]) := by
    unfold buildA; simp only [ti104]; rfl
  simp only [go_sem, e1, box_agg (vs := [.int .u32 next, .int .i64 k, .map H.length]) (M := ⟨H ++ [.map []], [] :: S⟩) ti104 rfl rfl (by decide), List.length_append]
  refine W_ret ⟨.inr rfl, _, rfl, rfl, .inl ⟨by omega, by omega, [.map (kv .u32 []), .row ⟨104, 3, [.int .u32 next, .int .i64 k, .map H.length], false, false⟩], rfl, ?_, ?_⟩⟩
  · simp only [go_sem, List.append_assoc]
    rfl
  · have hk : ((k.toNat : Nat) : Int) = k := by omega
    refine MuxAt.mk ?_ ?_ (fun e he => by cases he) hn
    · simp only [mem_get0]; rw [List.getElem?_append_right (by omega), hk]; simp
    · simp only [mem_get0]; rw [List.getElem?_append_right (by omega)]; simp
theorem matchI {q : Int} (h : MuxI ⟨H, S⟩ ix mi next most es) : AC Try.prog 20 [.ptr ⟨0, ix, 0⟩, .int .u32 n, .int .u32 q] ⟨H, S⟩ (fun v M' => (getK es n = none ∧ v = .tup [.int .i64 0, .int .i64 6] ∧ M' = ⟨H, S⟩) ∨ ∃ p y, getK es n = some (.agg [.int .u32 p, .int .i64 y]) ∧ ((p ≠ q ∧ v = .tup [.int .i64 0, .int .i64 2] ∧ M' = ⟨H, S⟩) ∨ (p = q ∧ v = .tup [.int .i64 y, .int .i64 0] ∧ M' = ⟨H.set mi (.map (kv .u32 (delK es n))), S⟩))) := by
  refine AC_of_WE Try.func20 rfl ?_
  simp only [Try.ntmps20, List.length_cons, List.length_nil, List.replicate, List.cons_append, List.nil_append, mem_enter]
  obtain ⟨p, yy, hc, y, rfl⟩ := mI_getv (n := n) h.v
  have h1 : MuxI ⟨H, [] :: S⟩ ix mi next most es := mI_to h
  (repeat refine W_seq ?_); refine W_regionT [] ?_
  simp only [go_sem]
  (repeat refine W_seq ?_); refine W_regionT [] ?_
  simp only [go_sem]
  (repeat refine W_seq ?_); refine W_regionT [] ?_
  simp only [go_sem, mI_a2 h1, mI_l2 h1, mI_look h1, alloc_agg (M := ⟨H, [] :: S⟩) ti106 rfl rfl rfl (by decide), hc]
  rw [store_all ti106 (top_row rfl) rfl rfl rfl rfl rfl rfl rfl]
  simp only [go_sem]
  (repeat refine W_seq ?_)
  refine W_block ?_
  (repeat refine W_seq ?_); refine W_regionT [] ?_
  simp only [go_sem]
  (repeat refine W_seq ?_)
  refine W_cond_if rfl (fun hb => ?_) (fun hb => ?_)
  · have hb' : getK es n = none := by
      cases hg : getK es n with
      | none => rfl
      | some z => rw [hg] at hb; cases hb
    (repeat refine W_seq ?_); refine W_regionT [] ?_
    simp only [go_sem]
    exact W_ret ⟨.inr rfl, _, rfl, rfl, .inl ⟨hb', rfl, rfl⟩⟩
  have hs : getK es n = some (.agg [.int .u32 p, .int .i64 y]) := by
    cases hg : getK es n with
    | none => rw [hg] at hb; cases hb
    | some z => rw [hg] at hc; exact congrArg some hc
  (repeat refine W_seq ?_); refine W_regionT [] ?_
  simp only [go_sem]
  rw [field_addr (off := 0) ti106 rfl rfl ti35 (top_row rfl)]
  simp only [go_sem]
  rw [load_one ti35 rfl (top_row rfl)]
  simp only [go_sem]
  refine W_cond_if rfl (fun hq => ?_) (fun hq => ?_)
  · have hq' : p ≠ q := by
      intro e; subst e; simp at hq
    (repeat refine W_seq ?_); refine W_regionT [] ?_
    simp only [go_sem]
    exact W_ret ⟨.inr rfl, _, rfl, rfl, .inr ⟨p, y, hs, .inl ⟨hq', rfl, rfl⟩⟩⟩
  have hq' : p = q := by simpa using hq
  refine W_skip ?_
  simp only [go_sem]
  have h2 : MuxI ⟨H, [Block.row ⟨106, 2, [.int .u32 p, .int .i64 y], false, false⟩] :: S⟩ ix mi next most es := mI_to h
  (repeat refine W_seq ?_); refine W_regionT [] ?_
  simp only [go_sem, mI_a2 h2, mI_l2 h2, mI_del h2]
  (repeat refine W_seq ?_); refine W_regionT [] ?_
  simp only [go_sem]
  rw [field_addr (off := 1) ti106 rfl rfl ti3 (top_row rfl)]
  simp only [go_sem]
  rw [load_one ti3 rfl (top_row rfl)]
  simp only [go_sem]
  exact W_ret ⟨.inr rfl, _, rfl, rfl, .inr ⟨p, y, hs, .inr ⟨hq', rfl, rfl⟩⟩⟩
theorem seekI (h : MuxI ⟨H, S⟩ ix mi next most es) (hn : 0 ≤ n ∧ n < 4294967296) : AC Try.prog 28 [.ptr ⟨0, ix, 0⟩, .int .u32 n] ⟨H, S⟩ (fun v M' => ∃ H', M' = ⟨H', S⟩ ∧ Off ix mi H H' ∧ MuxI ⟨H', S⟩ ix mi n most es) := by
  refine AC_of_WE Try.func28 rfl ?_
  simp only [Try.ntmps28, List.length_cons, List.length_nil, List.replicate, List.cons_append, List.nil_append, mem_enter]
  have h1 : MuxI ⟨H, [] :: S⟩ ix mi next most es := mI_to h
  (repeat refine W_seq ?_); refine W_regionT [] ?_
  simp only [go_sem, mI_a0 h1, mI_s0 h1]
  exact ⟨.inl trivial, _, rfl, rfl, _, rfl, Off.refl.set1, mI_next h1 hn⟩
theorem dropI (h : MuxI ⟨H, S⟩ ix mi next most es) : AC Try.prog 37 [.ptr ⟨0, ix, 0⟩, .int .u32 n] ⟨H, S⟩ (fun v M' => v = .bool (getK es n).isSome ∧ M' = ⟨H.set mi (.map (kv .u32 (delK es n))), S⟩) := by
  refine AC_of_WE Try.func37 rfl ?_
  simp only [Try.ntmps37, List.length_cons, List.length_nil, List.replicate, List.cons_append, List.nil_append, mem_enter]
  have h1 : MuxI ⟨H, [] :: S⟩ ix mi next most es := mI_to h
  (repeat refine W_seq ?_); refine W_regionT [] ?_
  simp only [go_sem]
  (repeat refine W_seq ?_); refine W_regionT [] ?_
  simp only [go_sem]
  refine AT_call rfl rfl (hasI h1) fun v M1 hd1 ⟨hv, hM⟩ => ?_
  subst hv; subst hM
  simp only [go_sem]
  (repeat refine W_seq ?_); refine W_regionT [] ?_
  simp only [go_sem, mI_a2 h1, mI_l2 h1, mI_del h1]
  (repeat refine W_seq ?_); refine W_regionT [] ?_
  simp only [go_sem]
  exact W_ret ⟨.inr rfl, _, rfl, rfl, rfl, rfl⟩
end

abbrev MuxT := MuxAt 111 113 (fun y => ∃ s, y = AV.str s)
section
variable {H : List Block} {S S' : List (List Block)} {M : Mem} {ix mi most : Nat} {next n : Int} {es es' : KV} {x : AV}
theorem mT_st {x : AV} (h : CallV (fun y => ∃ s, y = AV.str s) x) : ∃ p y, x = .agg [.int .u32 p, y] ∧ ([.int .u32 p, y] : List AV).all AV.st = true ∧ y.st = true ∧ y.cells = [y] := by
  obtain ⟨p, y, rfl, n, rfl⟩ := h
  exact ⟨p, _, rfl, rfl, rfl, rfl⟩
theorem mT_row (h : MuxT M ix mi next most es) {off : Nat} : getRow M ⟨0, ix, off⟩ = some ⟨111, 3, [.int .u32 next, .int .i64 most, .map mi], false, false⟩ := by simp only [getRow, h.r]
theorem mT_a0 (h : MuxT M ix mi next most es) : fieldAddrA Try.prog 111 (.ptr ⟨0, ix, 0⟩) 0 M = some (.ptr ⟨0, ix, 0⟩) := field_addr (off := 0) ti111 rfl rfl ti35 (mT_row h)
theorem mT_a1 (h : MuxT M ix mi next most es) : fieldAddrA Try.prog 111 (.ptr ⟨0, ix, 0⟩) 1 M = some (.ptr ⟨0, ix, 1⟩) := field_addr (off := 1) ti111 rfl rfl ti3 (mT_row h)
theorem mT_a2 (h : MuxT M ix mi next most es) : fieldAddrA Try.prog 111 (.ptr ⟨0, ix, 0⟩) 2 M = some (.ptr ⟨0, ix, 2⟩) := field_addr (off := 2) ti111 rfl rfl ti109 (mT_row h)
theorem mT_l0 (h : MuxT M ix mi next most es) : loadA Try.prog 35 (.ptr ⟨0, ix, 0⟩) M = some (.int .u32 next) := by rw [load_one ti35 rfl (mT_row h)]; rfl
theorem mT_l1 (h : MuxT M ix mi next most es) : loadA Try.prog 3 (.ptr ⟨0, ix, 1⟩) M = some (.int .i64 most) := by rw [load_one ti3 rfl (mT_row h)]; rfl
theorem mT_l2 (h : MuxT M ix mi next most es) : loadA Try.prog 109 (.ptr ⟨0, ix, 2⟩) M = some (.map mi) := by rw [load_one ti109 rfl (mT_row h)]; rfl
theorem mT_s0 (h : MuxT M ix mi next most es) {k : Int} : stores Try.prog 35 (.ptr ⟨0, ix, 0⟩) (.int .u32 k) M = some (.undef, M.set 0 ix (.row ⟨111, 3, [.int .u32 k, .int .i64 most, .map mi], false, false⟩)) := by
  rw [store_cell ti35 (mT_row h) rfl rfl rfl (by simp) rfl rfl]; rfl
theorem mT_look (h : MuxT M ix mi next most es) : lookupA Try.prog 109 (.map mi) (.int .u32 n) true M = some (.tup [(getK es n).getD (.agg [.int .u32 0, .str []]), .bool (getK es n).isSome]) := lookup_kv ti109 rfl ti35 rfl ti113 h.m
theorem mT_len (h : MuxT M ix mi next most es) : lenA Try.prog 109 (.map mi) M = some (.int .i64 es.length) := len_kv ti109 rfl h.m
theorem mT_put (h : MuxT M ix mi next most es) (hx : x.lev0 = true) : updates Try.prog 109 (.map mi) (.int .u32 n) x M = some (.undef, M.set 0 mi (.map (kv .u32 (putK es n x)))) := put_kv ti109 rfl ti35 rfl hx h.m
theorem mT_del (h : MuxT M ix mi next most es) : deletes Try.prog 109 (.map mi) (.int .u32 n) M = some (.tup [], M.set 0 mi (.map (kv .u32 (delK es n)))) := del_kv ti109 rfl ti35 rfl h.m
theorem mT_to (h : MuxT ⟨H, S⟩ ix mi next most es) : MuxT ⟨H, S'⟩ ix mi next most es := ⟨by have := h.r; simp only [mem_get0] at *; exact this, by have := h.m; simp only [mem_get0] at *; exact this, h.v, h.n⟩
theorem mT_ne (h : MuxT ⟨H, S⟩ ix mi next most es) : mi ≠ ix := by
  rintro rfl
  have h1 := h.r
  have h2 := h.m
  rw [h1] at h2; cases h2
theorem mT_set (h : MuxT ⟨H, S⟩ ix mi next most es) (hv : ∀ e ∈ es', CallV (fun y => ∃ s, y = AV.str s) e.2) : MuxT ⟨H.set mi (.map (kv .u32 es')), S'⟩ ix mi next most es' := by
  have hne := mT_ne h
  have h1 := h.r
  have h2 := h.m
  simp only [mem_get0] at h1 h2
  refine ⟨?_, ?_, hv, h.n⟩
  · simp only [mem_get0]; rw [List.getElem?_set_ne hne]; exact h1
  · simp only [mem_get0]; rw [List.getElem?_set_self (List.getElem?_eq_some_iff.1 h2).1]
theorem mT_next (h : MuxT ⟨H, S⟩ ix mi next most es) {k : Int} (hk : 0 ≤ k ∧ k < 4294967296) : MuxT ⟨H.set ix (.row ⟨111, 3, [.int .u32 k, .int .i64 most, .map mi], false, false⟩), S'⟩ ix mi k most es := by
  have hne := mT_ne h
  have h1 := h.r
  have h2 := h.m
  simp only [mem_get0] at h1 h2
  refine ⟨?_, ?_, h.v, hk⟩
  · simp only [mem_get0]; rw [List.getElem?_set_self (List.getElem?_eq_some_iff.1 h1).1]
  · simp only [mem_get0]; rw [List.getElem?_set_ne (Ne.symm hne)]; exact h2
theorem buildT {p : Int} {n : List UInt8} : buildA Try.prog 113 [(0, .int .u32 p), (1, .str n)] = some (.agg [.int .u32 p, .str n]) := by
  unfold buildA; simp only [ti113]; rfl
theorem mT_getv (h : ∀ e ∈ es, CallV (fun y => ∃ s, y = AV.str s) e.2) : CallV (fun y => ∃ s, y = AV.str s) ((getK es n).getD (.agg [.int .u32 0, .str []])) := by
  have : ∀ (es : KV) (i : Nat), (∀ e ∈ es, CallV (fun y => ∃ s, y = AV.str s) e.2) → CallV (fun y => ∃ s, y = AV.str s) (((pos n es i).map (·.2)).getD (.agg [.int .u32 0, .str []])) := by
    intro es
    induction es with
    | nil => intro i _; exact ⟨_, _, rfl, _, rfl⟩
    | cons e es ih =>
      intro i h
      unfold pos
      split
      · exact h e List.mem_cons_self
      · exact ih _ fun x hx => h x (List.mem_cons_of_mem _ hx)
  exact this es 0 h
theorem hasT (h : MuxT ⟨H, S⟩ ix mi next most es) : AC Try.prog 50 [.ptr ⟨0, ix, 0⟩, .int .u32 n] ⟨H, S⟩ (fun v M' => v = .bool (getK es n).isSome ∧ M' = ⟨H, S⟩) := by
  refine AC_of_WE Try.func50 rfl ?_
  simp only [Try.ntmps50, List.length_cons, List.length_nil, List.replicate, List.cons_append, List.nil_append, mem_enter]
  obtain ⟨p, y, hc, hc2, hc3, hc4⟩ := mT_st (mT_getv (n := n) h.v)
  have h1 : MuxT ⟨H, [] :: S⟩ ix mi next most es := mT_to h
  (repeat refine W_seq ?_); refine W_regionT [] ?_
  simp only [go_sem]
  (repeat refine W_seq ?_); refine W_regionT [] ?_
  simp only [go_sem, mT_a2 h1, mT_l2 h1, mT_look h1, alloc_agg (M := ⟨H, [] :: S⟩) ti113 rfl rfl rfl (by decide), hc]
  rw [store_all ti113 (top_row rfl) rfl rfl rfl rfl rfl rfl hc2]
  simp only [go_sem]
  (repeat refine W_seq ?_); refine W_regionT [] ?_
  simp only [go_sem]
  exact W_ret ⟨.inr rfl, _, rfl, rfl, rfl, rfl⟩
theorem lenT (h : MuxT ⟨H, S⟩ ix mi next most es) : AC Try.prog 26 [.ptr ⟨0, ix, 0⟩] ⟨H, S⟩ (fun v M' => v = .int .i64 es.length ∧ M' = ⟨H, S⟩) := by
  refine AC_of_WE Try.func26 rfl ?_
  simp only [Try.ntmps26, List.length_cons, List.length_nil, List.replicate, List.cons_append, List.nil_append, mem_enter]
  have h1 : MuxT ⟨H, [] :: S⟩ ix mi next most es := mT_to h
  (repeat refine W_seq ?_); refine W_regionT [] ?_
  simp only [go_sem]
  (repeat refine W_seq ?_); refine W_regionT [] ?_
  simp only [go_sem, mT_a2 h1, mT_l2 h1, mT_len h1]
  exact W_ret ⟨.inr rfl, _, rfl, rfl, rfl, rfl⟩
theorem callT {p : Int} (h : MuxT ⟨H, S⟩ ix mi next most es) (hx : (fun y => ∃ s, y = AV.str s) x) (hb : es.length < 1000000) : AC Try.prog 25 [.ptr ⟨0, ix, 0⟩, .int .u32 p, x] ⟨H, S⟩ (fun v M' => (most ≤ es.length ∧ v = .tup [.int .u32 0, .int .i64 5] ∧ M' = ⟨H, S⟩) ∨ (es.length < most ∧ ∃ xid H', Skips es next xid ∧ v = .tup [.int .u32 xid, .int .i64 0] ∧ M' = ⟨H', S⟩ ∧ Off ix mi H H' ∧ MuxT ⟨H', S⟩ ix mi ((xid + 1) % 4294967296) most (putK es xid (.agg [.int .u32 p, x])))) := by
  refine AC_of_WE Try.func25 rfl ?_
  simp only [Try.ntmps25, List.length_cons, List.length_nil, List.replicate, List.cons_append, List.nil_append, mem_enter]
  have h1 : MuxT ⟨H, [] :: S⟩ ix mi next most es := mT_to h
  (repeat refine W_seq ?_); refine W_regionT [] ?_
  simp only [go_sem]
  (repeat refine W_seq ?_); refine W_regionC [] [] [0, 1, 2, 3, 4, 5, 6, 7, 8, 9] [0, 1, 3, 7, 15, 0, 32, 96, 224, 511] mixedM (by kernel_rfl) (by kernel_rfl) (by kernel_rfl) (by kernel_rfl) ?_
  simp only [listed, go_sem, mT_a2 h1, mT_l2 h1, mT_len h1, mT_a1 h1, mT_l1 h1, List.map_cons, List.map_nil]
  (repeat refine W_seq ?_)
  refine W_cond_if rfl (fun hc => ?_) (fun hc => ?_)
  · have hc' : most ≤ es.length := by simpa using hc
    (repeat refine W_seq ?_); refine W_regionT [] ?_
    simp only [go_sem]
    exact W_ret ⟨.inr rfl, _, rfl, rfl, .inl ⟨hc', rfl, rfl⟩⟩
  have hc' : es.length < most := by simp at hc; omega
  refine W_skip ?_
  simp only [go_sem]
  (repeat refine W_seq ?_)
  refine W_block (W_loop (L_inv (fun j env M' => ∃ (x3 x4 x5 x6 x7 x8 x9 x10 x11 x12 x13 x14 x15 x16 x17 x18 x19 x20 x21 x22 x23 x24 x25 x26 x27 x28 x29 x30 x31 x32 x33 x34 x35 x36 x37 x38 x39 x40 x41 x42 x43 x44 x45 x46 x47 x48 x49 x50 x51 : AV) (i : Nat) (H1 : List Block), env = [.ptr ⟨0, ix, 0⟩, .int .u32 p, x, x3, x4, x5, x6, x7, x8, x9, x10, x11, x12, x13, x14, x15, x16, x17, x18, x19, x20, x21, x22, x23, x24, x25, x26, x27, x28, x29, x30, x31, x32, x33, x34, x35, x36, x37, x38, x39, x40, x41, x42, x43, x44, x45, x46, x47, x48, x49, x50, x51] ∧ i + j = es.length + 1 ∧ i ≤ es.length ∧ (∀ i' : Nat, i' < i → (getK es ((next + i') % 4294967296)).isSome = true) ∧ M' = ⟨H1, [] :: S⟩ ∧ Off ix mi H H1 ∧ MuxT ⟨H1, [] :: S⟩ ix mi ((next + i) % 4294967296) most es) (fun j env M2 => ?_) (es.length + 1) ?_))
  case refine_2 => exact ⟨_, _, _, _, _, _, _, _, _, _, _, _, _, _, _, _, _, _, _, _, _, _, _, _, _, _, _, _, _, _, _, _, _, _, _, _, _, _, _, _, _, _, _, _, _, _, _, _, _, 0, H, rfl, by omega, Nat.zero_le _, fun i' hi => by omega, rfl, Off.refl, by have hn := h.n; rw [show (next + ((0 : Nat) : Int)) % 4294967296 = next by omega]; exact h1⟩
  rintro ⟨x3, x4, x5, x6, x7, x8, x9, x10, x11, x12, x13, x14, x15, x16, x17, x18, x19, x20, x21, x22, x23, x24, x25, x26, x27, x28, x29, x30, x31, x32, x33, x34, x35, x36, x37, x38, x39, x40, x41, x42, x43, x44, x45, x46, x47, x48, x49, x50, x51, i, H1, rfl, hij, hil, hall, rfl, hoff, h2⟩
  (repeat refine W_seq ?_); refine W_regionT [] ?_
  simp only [go_sem, mT_a0 h2, mT_l0 h2]
  refine AT_call rfl rfl (hasT (mT_to h2)) fun v M1 hd1 ⟨hv, hM⟩ => ?_
  subst hv; subst hM
  simp only [go_sem]
  (repeat refine W_seq ?_)
  refine W_cond_if rfl (fun hb1 => ?_) (fun hb1 => ?_)
  · have hall' : ∀ i' : Nat, i' < i + 1 → (getK es ((next + i') % 4294967296)).isSome = true := fun i' hi => by
      rcases Nat.lt_or_ge i' i with hlt | hge
      · exact hall i' hlt
      · have : i' = i := by omega
        subst this; exact hb1
    have hle := run_le (j := i + 1) (by omega) hall'
    refine W_skip ?_
    simp only [go_sem]
    refine W_block ?_
    (repeat refine W_seq ?_); refine W_regionT [] ?_
    have e1 : IntKind.wrap .u32 ((next + i) % 4294967296 + 1) = (next + ((i + 1 : Nat) : Int)) % 4294967296 := by rw [wrap_u32]; omega
    simp only [go_sem, mT_a0 h2, mT_l0 h2, e1, mT_s0 h2]
    exact ⟨j - 1, by omega, _, _, _, _, _, _, _, _, _, _, _, _, _, _, _, _, _, _, _, _, _, _, _, _, _, _, _, _, _, _, _, _, _, _, _, _, _, _, _, _, _, _, _, _, _, _, _, _, _, i + 1, _, rfl, by omega, hle, hall', rfl, hoff.set1, mT_next h2 (by omega)⟩
  · refine W_exit ?_
    simp only [go_sem]
    (repeat refine W_seq ?_); refine W_regionT [] ?_
    simp only [go_sem, mT_a0 h2, mT_l0 h2]
    (repeat refine W_seq ?_); refine W_regionT [] ?_
    have e1 : IntKind.wrap .u32 ((next + i) % 4294967296 + 1) = ((next + i) % 4294967296 + 1) % 4294967296 := by rw [wrap_u32]
    simp only [go_sem, mT_a0 h2, mT_l0 h2, e1, mT_s0 h2]
    have h3 := mT_next (S' := [] :: S) h2 (k := ((next + i) % 4294967296 + 1) % 4294967296) (by omega)
    have hv := hx
    obtain ⟨n0, rfl⟩ := hx
    (repeat refine W_seq ?_); refine W_regionT [] ?_
    simp only [go_sem, mT_a2 h3, mT_l2 h3, buildT]
    rw [mT_put h3 (x := .agg [.int .u32 p, .str n0]) rfl]
    simp only [go_sem]
    (repeat refine W_seq ?_); refine W_regionT [] ?_
    simp only [go_sem]
    refine W_ret ⟨.inr rfl, _, rfl, rfl, .inr ⟨hc', _, _, ⟨i, hil, rfl, hall, by simpa using hb1⟩, rfl, rfl, hoff.set1.set2, mT_set h3 (putK_v ⟨_, _, rfl, hv⟩ h.v)⟩⟩
theorem newT {k : Int} (hn : 0 ≤ next ∧ next < 4294967296) : AC Try.prog 24 [.int .u32 next, .int .i64 k] ⟨H, S⟩ (fun v M' => (1 ≤ k ∧ k ≤ 16 ∧ ∃ H', v = .tup [.ptr ⟨0, H.length + 1, 0⟩, .int .i64 0] ∧ M' = ⟨H ++ H', S⟩ ∧ MuxT ⟨H ++ H', S⟩ (H.length + 1) H.length next k.toNat []) ∨ (¬ (1 ≤ k ∧ k ≤ 16) ∧ v = .tup [.nilptr, .int .i64 1] ∧ M' = ⟨H, S⟩)) := by
  refine AC_of_WE Try.func24 rfl ?_
  simp only [Try.ntmps24, List.length_cons, List.length_nil, List.replicate, List.cons_append, List.nil_append, mem_enter]
  (repeat refine W_seq ?_); refine W_regionT [] ?_
  simp only [go_sem]
  by_cases h1 : k < 1
  · (repeat refine W_seq ?_); refine W_regionT [] ?_
    simp only [go_sem, h1]
    (repeat refine W_seq ?_)
    refine W_cond (b := true) rfl ?_
    simp only [if_true]
    (repeat refine W_seq ?_); refine W_regionT [] ?_
    simp only [go_sem]
    exact W_ret ⟨.inr rfl, _, rfl, rfl, .inr ⟨by omega, rfl, rfl⟩⟩
  by_cases h2 : 16 < k
  · (repeat refine W_seq ?_); refine W_regionT [] ?_
    simp only [go_sem, h1, h2]
    (repeat refine W_seq ?_)
    refine W_cond (b := true) rfl ?_
    simp only [if_true]
    (repeat refine W_seq ?_); refine W_regionT [] ?_
    simp only [go_sem]
    exact W_ret ⟨.inr rfl, _, rfl, rfl, .inr ⟨by omega, rfl, rfl⟩⟩
  (repeat refine W_seq ?_); refine W_regionT [] ?_
  simp only [go_sem, h1, h2]
  (repeat refine W_seq ?_)
  refine W_cond (b := false) rfl ?_
  simp only [Bool.false_eq_true, if_false]
  refine W_skip ?_
  simp only [go_sem]
  (repeat refine W_seq ?_); refine W_regionT [16] ?_
  have e1 : buildA Try.prog 111 [(0, .int .u32 next), (1, .int .i64 k), (2, .map H.length)] = some (.agg [.int .u32 next, .int .i64 k, .map H.length]) := by
    unfold buildA; simp only [ti111]; rfl
  simp only [go_sem, e1, box_agg (vs := [.int .u32 next, .int .i64 k, .map H.length]) (M := ⟨H ++ [.map []], [] :: S⟩) ti111 rfl rfl (by decide), List.length_append]
  refine W_ret ⟨.inr rfl, _, rfl, rfl, .inl ⟨by omega, by omega, [.map (kv .u32 []), .row ⟨111, 3, [.int .u32 next, .int .i64 k, .map H.length], false, false⟩], rfl, ?_, ?_⟩⟩
  · simp only [go_sem, List.append_assoc]
    rfl
  · have hk : ((k.toNat : Nat) : Int) = k := by omega
    refine MuxAt.mk ?_ ?_ (fun e he => by cases he) hn
    · simp only [mem_get0]; rw [List.getElem?_append_right (by omega), hk]; simp
    · simp only [mem_get0]; rw [List.getElem?_append_right (by omega)]; simp
end
end Go.Proofs.Ytcjdckoabinndaa
