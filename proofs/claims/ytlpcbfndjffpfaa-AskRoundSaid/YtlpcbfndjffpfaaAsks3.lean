/- The walk of ask.body, ask.Write. -/
import Derived.Test.YtlpcbfndjffpfaaAsks2
set_option maxRecDepth 100000
set_option maxHeartbeats 4000000
set_option linter.unusedSimpArgs false
set_option linter.unusedVariables false
namespace Go.Proofs.Ytlpcbfndjffpfaa
open Go.Abs
def textsOf (l : List (List UInt8)) : List UInt8 := l.flatMap fun s => le s.length 2 ++ s
def AskR.body (a : AskR) : List UInt8 := if a.ty = 100 then le (u32 a.msize) 4 ++ le a.name.length 2 ++ a.name else if a.ty = 104 then le (u32 a.fid) 4 ++ le a.name.length 2 ++ a.name else if a.ty = 108 then le (u16 a.oldtag) 2 else if a.ty = 110 then le (u32 a.fid) 4 ++ le (u32 a.newfid) 4 ++ le (u16 a.names.length) 2 ++ textsOf a.names else if a.ty = 112 then le (u32 a.fid) 4 ++ le (u8 a.mode) 1 else if a.ty = 114 then le (u32 a.fid) 4 ++ le a.name.length 2 ++ a.name ++ le (u32 a.perm) 4 ++ le (u8 a.mode) 1 else if a.ty = 116 then le (u32 a.fid) 4 ++ le (u64 a.off) 8 ++ le (u32 a.count) 4 else if a.ty = 118 then le (u32 a.fid) 4 ++ le (u64 a.off) 8 ++ le a.data.length 4 ++ a.data else if a.ty = 120 then le (u32 a.fid) 4 else if a.ty = 122 then le (u32 a.fid) 4 else if a.ty = 124 then le (u32 a.fid) 4 else if a.ty = 126 then le (u32 a.fid) 4 ++ le (u32 a.size) 4 ++ le a.name.length 2 ++ a.name else []
def AskR.pack (a : AskR) : List UInt8 := le (7 + a.body.length) 4 ++ le (u8 a.ty) 1 ++ le (u16 a.tag) 2 ++ a.body
/-- Short enough to be laid. -/
structure AskR.Fit (a : AskR) : Prop where
  n : a.name.length ≤ 255
  s : ∀ s ∈ a.names, s.length ≤ 255
  l : a.names.length ≤ 8
  d : a.data.length ≤ 1024
theorem AskR.fit {a : AskR} (h : a.may = true) : a.Fit := by
  unfold AskR.may at h
  simp only [Bool.and_eq_true, decide_eq_true_eq, Bool.not_eq_true', List.any_eq_false, decide_eq_true_eq] at h
  obtain ⟨⟨⟨_, h1⟩, h2⟩, h3⟩ := h
  refine ⟨?_, fun s hs => ?_, by omega, by omega⟩
  · have := h1 a.name (by simp); omega
  · have := h1 s (by simp [hs]); omega
theorem AskR.known {a : AskR} (h : a.may = true) : a.ty = 100 ∨ a.ty = 104 ∨ a.ty = 108 ∨ a.ty = 110 ∨ a.ty = 112 ∨ a.ty = 114 ∨ a.ty = 116 ∨ a.ty = 118 ∨ a.ty = 120 ∨ a.ty = 122 ∨ a.ty = 124 ∨ a.ty = 126 := by
  unfold AskR.may AskR.head at h
  simp only [Bool.and_eq_true] at h
  have h0 := h.1.1.1.1.1.1.1.1.1.1
  refine Classical.byContradiction fun hc => ?_
  simp only [not_or] at hc
  obtain ⟨h100, h104, h108, h110, h112, h114, h116, h118, h120, h122, h124, h126⟩ := hc
  rw [known_no h100 h104 h108 h110 h112 h114 h116 h118 h120 h122 h124 h126] at h0; exact absurd h0 (by decide)
theorem body100 {a : AskR} (h : a.ty = 100) : a.body = le (u32 a.msize) 4 ++ le a.name.length 2 ++ a.name := by unfold AskR.body; simp only [h]; rfl
theorem body104 {a : AskR} (h : a.ty = 104) : a.body = le (u32 a.fid) 4 ++ le a.name.length 2 ++ a.name := by unfold AskR.body; simp only [h]; rfl
theorem body108 {a : AskR} (h : a.ty = 108) : a.body = le (u16 a.oldtag) 2 := by unfold AskR.body; simp only [h]; rfl
theorem body110 {a : AskR} (h : a.ty = 110) : a.body = le (u32 a.fid) 4 ++ le (u32 a.newfid) 4 ++ le (u16 a.names.length) 2 ++ textsOf a.names := by unfold AskR.body; simp only [h]; rfl
theorem body112 {a : AskR} (h : a.ty = 112) : a.body = le (u32 a.fid) 4 ++ le (u8 a.mode) 1 := by unfold AskR.body; simp only [h]; rfl
theorem body114 {a : AskR} (h : a.ty = 114) : a.body = le (u32 a.fid) 4 ++ le a.name.length 2 ++ a.name ++ le (u32 a.perm) 4 ++ le (u8 a.mode) 1 := by unfold AskR.body; simp only [h]; rfl
theorem body116 {a : AskR} (h : a.ty = 116) : a.body = le (u32 a.fid) 4 ++ le (u64 a.off) 8 ++ le (u32 a.count) 4 := by unfold AskR.body; simp only [h]; rfl
theorem body118 {a : AskR} (h : a.ty = 118) : a.body = le (u32 a.fid) 4 ++ le (u64 a.off) 8 ++ le a.data.length 4 ++ a.data := by unfold AskR.body; simp only [h]; rfl
theorem body120 {a : AskR} (h : a.ty = 120) : a.body = le (u32 a.fid) 4 := by unfold AskR.body; simp only [h]; rfl
theorem body122 {a : AskR} (h : a.ty = 122) : a.body = le (u32 a.fid) 4 := by unfold AskR.body; simp only [h]; rfl
theorem body124 {a : AskR} (h : a.ty = 124) : a.body = le (u32 a.fid) 4 := by unfold AskR.body; simp only [h]; rfl
theorem body126 {a : AskR} (h : a.ty = 126) : a.body = le (u32 a.fid) 4 ++ le (u32 a.size) 4 ++ le a.name.length 2 ++ a.name := by unfold AskR.body; simp only [h]; rfl
section
variable {H H' : List Block} {S : List (List Block)} {M' : Mem} {b : AV} {l : List UInt8}
/-- Bytes, beside memory that was. -/
def NewC (H : List Block) (S : List (List Block)) (l : List UInt8) (v : AV) (M' : Mem) : Prop := ∃ H', M' = ⟨H', S⟩ ∧ UpdH no H H' ∧ BH H' v l
theorem gk {x : Block} {ix : Nat} {F : List (List Block)} (h : H[ix]? = some x) (u : UpdH no H H') : (⟨H', F⟩ : Mem).get 0 ix = some x := get0 (u.get h (fun h => h))
theorem alloc22 : allocA Try.prog 22 true ⟨H, S⟩ = some (.ptr ⟨0, H.length, 0⟩, ⟨H ++ [.row ⟨22, 1, [.nilsl], false, false⟩], S⟩) := by unfold allocA boxA; simp only [ti22]; rfl
theorem st22 {x : AV} (hs : x.st = true) (hc : x.cells = [x]) : stores Try.prog 22 (.ptr ⟨0, H.length, 0⟩) x ⟨H ++ [.row ⟨22, 1, [.nilsl], false, false⟩], S⟩ = some (.undef, ⟨H ++ [.row ⟨22, 1, [x], false, false⟩], S⟩) := by
  rw [store_cell (r := ⟨22, 1, [.nilsl], false, false⟩) ti22 (heap_row (by simp)) rfl rfl rfl (show 0 % 1 + 1 ≤ 1 by decide) hs hc, mem_set0]
  simp
theorem ld22 {M' : Mem} {ic : Nat} {x : AV} (h : M'.get 0 ic = some (.row ⟨22, 1, [x], false, false⟩)) : loadA Try.prog 22 (.ptr ⟨0, ic, 0⟩) M' = some x := by
  rw [load_one (a := ⟨0, ic, 0⟩) (r := ⟨22, 1, [x], false, false⟩) ti22 rfl (by unfold getRow; simp only [h])]; rfl
theorem put32 {n : Int} (h : BH H b l) (hl : l.length < 1000000) : AC Try.prog 128 [b, .int .i64 n] ⟨H, S⟩ (NewB H S (l ++ le (u32 n) 4)) := by
  refine AC_of_WE Try.func128 rfl ?_
  simp only [Try.ntmps128, List.length_cons, List.length_nil, List.replicate, List.cons_append, List.nil_append, mem_enter]
  (repeat refine W_seq ?_); refine W_regionT [] ?_
  simp only [go_sem]
  (repeat refine W_seq ?_); refine W_regionT [] ?_
  simp only [go_sem]
  refine AT_call rfl rfl (u32B h hl) fun v M1 hd1 h1 => ?_
  obtain ⟨G, rfl, u1, b1, l1⟩ := h1
  simp only [go_sem]
  exact W_ret ⟨.inr rfl, _, rfl, RH.lev0 b1, _, rfl, u1, b1, l1⟩
theorem alone129 {ic : Nat} {vf : AV} (hc : H[ic]? = some (Block.row ⟨22, 1, [vf], false, false⟩)) (hf : BH H vf l) : AC Try.prog 129 [.ptr ⟨0, ic, 0⟩] ⟨H, S⟩ (NewC H S l) := by
  refine AC_of_WE Try.func129 rfl ?_
  simp only [Try.ntmps129, List.length_cons, List.length_nil, List.replicate, List.cons_append, List.nil_append, mem_enter]
  (repeat refine W_seq ?_); refine W_regionT [] ?_
  simp only [go_sem]
  (repeat refine W_seq ?_); refine W_regionT [] ?_
  simp only [go_sem, ld22 (get0 hc)]
  exact W_ret ⟨.inr rfl, _, rfl, RH.lev0 hf, H, rfl, UpdH.refl, hf⟩
theorem clo130 {ix ic : Nat} {a : AskR} {vn vd vf : AV} (hr : H[ix]? = some (Block.row ⟨72, 14, AskR.cells a vn vd, false, false⟩)) (hf : BH H vf (le (u32 a.fid) 4)) (hn : TH H vn a.names) (hd : BH H vd a.data) (fit : a.Fit) : AC Try.prog 130 [.ptr ⟨0, ix, 0⟩] ⟨H, S⟩ (NewB H S (le (u32 a.msize) 4 ++ le a.name.length 2 ++ a.name)) := by
  refine AC_of_WE Try.func130 rfl ?_
  simp only [Try.ntmps130, List.length_cons, List.length_nil, List.replicate, List.cons_append, List.nil_append, mem_enter]
  have fn := fit.n
  have fd := fit.d
  have fl := fit.l
  (repeat refine W_seq ?_); refine W_regionT [] ?_
  simp only [go_sem]
  have U0 : UpdH no H H := UpdH.refl
  (repeat refine W_seq ?_); refine W_regionD [] [2, 5] [0, 1, 3, 4, 2, 5, 6] [0, 1, 3, 0, 8, 31, 63] mixedM (by kernel_rfl) (by kernel_rfl) (by kernel_rfl) ?_
  simp only [listed, go_sem]
  refine AD_read (v := .ptr ⟨0, ix, 5⟩) (fun M' => M'.get 0 ix = some (Block.row ⟨72, 14, AskR.cells a vn vd, false, false⟩)) rfl rfl (fun M' h => by show pureV (fieldAddrA Try.prog 72 (.ptr ⟨0, ix, 0⟩) 5 M') M' = _; rw [ka5 h]; rfl) (gk hr U0) ?_
  simp only [go_sem]
  refine AD_read (v := .int .i64 a.msize) (fun M' => M'.get 0 ix = some (Block.row ⟨72, 14, AskR.cells a vn vd, false, false⟩)) rfl rfl (fun M' h => by show pureV (loadA Try.prog 3 (.ptr ⟨0, ix, 5⟩) M') M' = _; rw [kl5 h]; rfl) (gk hr U0) ?_
  simp only [go_sem]
  refine AD_read (v := .ptr ⟨0, ix, 10⟩) (fun M' => M'.get 0 ix = some (Block.row ⟨72, 14, AskR.cells a vn vd, false, false⟩)) rfl rfl (fun M' h => by show pureV (fieldAddrA Try.prog 72 (.ptr ⟨0, ix, 0⟩) 10 M') M' = _; rw [ka10 h]; rfl) (gk hr U0) ?_
  simp only [go_sem]
  refine AD_read (v := .str a.name) (fun M' => M'.get 0 ix = some (Block.row ⟨72, 14, AskR.cells a vn vd, false, false⟩)) rfl rfl (fun M' h => by show pureV (loadA Try.prog 9 (.ptr ⟨0, ix, 10⟩) M') M' = _; rw [kl10 h]; rfl) (gk hr U0) ?_
  simp only [go_sem]
  refine AD_call rfl rfl rfl (put32 BH.nil (by simp)) fun v M1 hd1 h1 => ?_
  obtain ⟨G1, rfl, u1, b1, l1⟩ := h1
  have U1 := U0.then u1 (fun _ _ h => h)
  refine ⟨⟨fun _ => gk hr U1, fun _ => gk hr U1, fun _ => gk hr U1, fun _ => gk hr U1, trivial⟩, ?_⟩
  simp only [go_sem]
  refine AD_call rfl rfl rfl (textB b1 (by simp [le_length]; try omega) (by omega)) fun v M1 hd1 h1 => ?_
  obtain ⟨G2, rfl, u2, b2, l2⟩ := h1
  have U2 := U1.then u2 (fun _ _ h => h)
  refine ⟨⟨fun _ => gk hr U2, fun _ => gk hr U2, fun _ => gk hr U2, fun _ => gk hr U2, trivial⟩, ?_⟩
  simp only [go_sem]
  exact W_ret ⟨.inr rfl, _, rfl, RH.lev0 b2, _, rfl, U2, b2, fun k hk => Nat.le_trans U1.l (l2 k hk)⟩
theorem clo131 {ix ic : Nat} {a : AskR} {vn vd vf : AV} (hr : H[ix]? = some (Block.row ⟨72, 14, AskR.cells a vn vd, false, false⟩)) (hc : H[ic]? = some (Block.row ⟨22, 1, [vf], false, false⟩)) (hf : BH H vf (le (u32 a.fid) 4)) (hn : TH H vn a.names) (hd : BH H vd a.data) (fit : a.Fit) : AC Try.prog 131 [.ptr ⟨0, ic, 0⟩, .ptr ⟨0, ix, 0⟩] ⟨H, S⟩ (NewB H S (le (u32 a.fid) 4 ++ le a.name.length 2 ++ a.name)) := by
  refine AC_of_WE Try.func131 rfl ?_
  simp only [Try.ntmps131, List.length_cons, List.length_nil, List.replicate, List.cons_append, List.nil_append, mem_enter]
  have fn := fit.n
  have fd := fit.d
  have fl := fit.l
  (repeat refine W_seq ?_); refine W_regionT [] ?_
  simp only [go_sem]
  have U0 : UpdH no H H := UpdH.refl
  (repeat refine W_seq ?_); refine W_regionT [] ?_
  simp only [go_sem, ld22 (gk hc U0), ka10 (gk hr U0), kl10 (gk hr U0)]
  refine AT_call rfl rfl (textB hf (by simp [le_length]; try omega) (by omega)) fun v M1 hd1 h1 => ?_
  obtain ⟨G1, rfl, u1, b1, l1⟩ := h1
  have U1 := U0.then u1 (fun _ _ h => h)
  simp only [go_sem]
  exact W_ret ⟨.inr rfl, _, rfl, RH.lev0 b1, _, rfl, U1, b1, fun k hk => Nat.le_trans U0.l (l1 k hk)⟩
theorem clo132 {ix ic : Nat} {a : AskR} {vn vd vf : AV} (hr : H[ix]? = some (Block.row ⟨72, 14, AskR.cells a vn vd, false, false⟩)) (hf : BH H vf (le (u32 a.fid) 4)) (hn : TH H vn a.names) (hd : BH H vd a.data) (fit : a.Fit) : AC Try.prog 132 [.ptr ⟨0, ix, 0⟩] ⟨H, S⟩ (NewB H S (le (u16 a.oldtag) 2)) := by
  refine AC_of_WE Try.func132 rfl ?_
  simp only [Try.ntmps132, List.length_cons, List.length_nil, List.replicate, List.cons_append, List.nil_append, mem_enter]
  have fn := fit.n
  have fd := fit.d
  have fl := fit.l
  (repeat refine W_seq ?_); refine W_regionT [] ?_
  simp only [go_sem]
  have U0 : UpdH no H H := UpdH.refl
  (repeat refine W_seq ?_); refine W_regionT [] ?_
  simp only [go_sem, ka4 (gk hr U0), kl4 (gk hr U0)]
  refine AT_call rfl rfl (u16B BH.nil (by simp)) fun v M1 hd1 h1 => ?_
  obtain ⟨G1, rfl, u1, b1, l1⟩ := h1
  have U1 := U0.then u1 (fun _ _ h => h)
  simp only [go_sem]
  exact W_ret ⟨.inr rfl, _, rfl, RH.lev0 b1, _, rfl, U1, b1, fun k hk => Nat.le_trans U0.l (l1 k hk)⟩
theorem clo134 {ix ic : Nat} {a : AskR} {vn vd vf : AV} (hr : H[ix]? = some (Block.row ⟨72, 14, AskR.cells a vn vd, false, false⟩)) (hc : H[ic]? = some (Block.row ⟨22, 1, [vf], false, false⟩)) (hf : BH H vf (le (u32 a.fid) 4)) (hn : TH H vn a.names) (hd : BH H vd a.data) (fit : a.Fit) : AC Try.prog 134 [.ptr ⟨0, ic, 0⟩, .ptr ⟨0, ix, 0⟩] ⟨H, S⟩ (NewB H S (le (u32 a.fid) 4 ++ le (u8 a.mode) 1)) := by
  refine AC_of_WE Try.func134 rfl ?_
  simp only [Try.ntmps134, List.length_cons, List.length_nil, List.replicate, List.cons_append, List.nil_append, mem_enter]
  have fn := fit.n
  have fd := fit.d
  have fl := fit.l
  (repeat refine W_seq ?_); refine W_regionT [] ?_
  simp only [go_sem]
  have U0 : UpdH no H H := UpdH.refl
  (repeat refine W_seq ?_); refine W_regionT [] ?_
  simp only [go_sem, ld22 (gk hc U0), ka6 (gk hr U0), kl6 (gk hr U0)]
  refine AT_call rfl rfl (u8B hf (by simp [le_length]; try omega)) fun v M1 hd1 h1 => ?_
  obtain ⟨G1, rfl, u1, b1, l1⟩ := h1
  have U1 := U0.then u1 (fun _ _ h => h)
  simp only [go_sem]
  exact W_ret ⟨.inr rfl, _, rfl, RH.lev0 b1, _, rfl, U1, b1, fun k hk => Nat.le_trans U0.l (l1 k hk)⟩
theorem clo135 {ix ic : Nat} {a : AskR} {vn vd vf : AV} (hr : H[ix]? = some (Block.row ⟨72, 14, AskR.cells a vn vd, false, false⟩)) (hc : H[ic]? = some (Block.row ⟨22, 1, [vf], false, false⟩)) (hf : BH H vf (le (u32 a.fid) 4)) (hn : TH H vn a.names) (hd : BH H vd a.data) (fit : a.Fit) : AC Try.prog 135 [.ptr ⟨0, ic, 0⟩, .ptr ⟨0, ix, 0⟩] ⟨H, S⟩ (NewB H S (le (u32 a.fid) 4 ++ le a.name.length 2 ++ a.name ++ le (u32 a.perm) 4 ++ le (u8 a.mode) 1)) := by
  refine AC_of_WE Try.func135 rfl ?_
  simp only [Try.ntmps135, List.length_cons, List.length_nil, List.replicate, List.cons_append, List.nil_append, mem_enter]
  have fn := fit.n
  have fd := fit.d
  have fl := fit.l
  (repeat refine W_seq ?_); refine W_regionT [] ?_
  simp only [go_sem]
  have U0 : UpdH no H H := UpdH.refl
  (repeat refine W_seq ?_); refine W_regionD [] [3, 6, 10] [0, 1, 2, 4, 5, 7, 8, 9, 3, 6, 10, 11] [0, 0, 2, 7, 0, 16, 63, 0, 128, 384, 1023, 2047] mixedM (by kernel_rfl) (by kernel_rfl) (by kernel_rfl) ?_
  simp only [listed, go_sem]
  refine AD_read (v := vf) (fun M' => M'.get 0 ic = some (Block.row ⟨22, 1, [vf], false, false⟩)) rfl rfl (fun M' h => by show pureV (loadA Try.prog 22 (.ptr ⟨0, ic, 0⟩) M') M' = _; rw [ld22 h]; rfl) (gk hc U0) ?_
  simp only [go_sem]
  refine AD_read (v := .ptr ⟨0, ix, 10⟩) (fun M' => M'.get 0 ix = some (Block.row ⟨72, 14, AskR.cells a vn vd, false, false⟩)) rfl rfl (fun M' h => by show pureV (fieldAddrA Try.prog 72 (.ptr ⟨0, ix, 0⟩) 10 M') M' = _; rw [ka10 h]; rfl) (gk hr U0) ?_
  simp only [go_sem]
  refine AD_read (v := .str a.name) (fun M' => M'.get 0 ix = some (Block.row ⟨72, 14, AskR.cells a vn vd, false, false⟩)) rfl rfl (fun M' h => by show pureV (loadA Try.prog 9 (.ptr ⟨0, ix, 10⟩) M') M' = _; rw [kl10 h]; rfl) (gk hr U0) ?_
  simp only [go_sem]
  refine AD_read (v := .ptr ⟨0, ix, 7⟩) (fun M' => M'.get 0 ix = some (Block.row ⟨72, 14, AskR.cells a vn vd, false, false⟩)) rfl rfl (fun M' h => by show pureV (fieldAddrA Try.prog 72 (.ptr ⟨0, ix, 0⟩) 7 M') M' = _; rw [ka7 h]; rfl) (gk hr U0) ?_
  simp only [go_sem]
  refine AD_read (v := .int .i64 a.perm) (fun M' => M'.get 0 ix = some (Block.row ⟨72, 14, AskR.cells a vn vd, false, false⟩)) rfl rfl (fun M' h => by show pureV (loadA Try.prog 3 (.ptr ⟨0, ix, 7⟩) M') M' = _; rw [kl7 h]; rfl) (gk hr U0) ?_
  simp only [go_sem]
  refine AD_read (v := .ptr ⟨0, ix, 6⟩) (fun M' => M'.get 0 ix = some (Block.row ⟨72, 14, AskR.cells a vn vd, false, false⟩)) rfl rfl (fun M' h => by show pureV (fieldAddrA Try.prog 72 (.ptr ⟨0, ix, 0⟩) 6 M') M' = _; rw [ka6 h]; rfl) (gk hr U0) ?_
  simp only [go_sem]
  refine AD_read (v := .int .i64 a.mode) (fun M' => M'.get 0 ix = some (Block.row ⟨72, 14, AskR.cells a vn vd, false, false⟩)) rfl rfl (fun M' h => by show pureV (loadA Try.prog 3 (.ptr ⟨0, ix, 6⟩) M') M' = _; rw [kl6 h]; rfl) (gk hr U0) ?_
  simp only [go_sem]
  refine AD_convI rfl rfl ti3 ti5 rfl ?_
  simp only [go_sem]
  refine AD_call rfl rfl rfl (textB hf (by simp [le_length]; try omega) (by omega)) fun v M1 hd1 h1 => ?_
  obtain ⟨G1, rfl, u1, b1, l1⟩ := h1
  have U1 := U0.then u1 (fun _ _ h => h)
  refine ⟨⟨fun _ => gk hr U1, fun _ => gk hr U1, fun _ => gk hr U1, fun _ => gk hr U1, fun _ => gk hr U1, fun _ => gk hr U1, fun _ => gk hc U1, trivial⟩, ?_⟩
  simp only [go_sem]
  refine AD_call rfl rfl rfl (put32 b1 (by simp [le_length]; try omega)) fun v M1 hd1 h1 => ?_
  obtain ⟨G2, rfl, u2, b2, l2⟩ := h1
  have U2 := U1.then u2 (fun _ _ h => h)
  refine ⟨⟨fun _ => gk hr U2, fun _ => gk hr U2, fun _ => gk hr U2, fun _ => gk hr U2, fun _ => gk hr U2, fun _ => gk hr U2, fun _ => gk hc U2, trivial⟩, ?_⟩
  simp only [go_sem]
  refine AD_call rfl rfl rfl (u8B b2 (by simp [le_length]; try omega)) fun v M1 hd1 h1 => ?_
  obtain ⟨G3, rfl, u3, b3, l3⟩ := h1
  have U3 := U2.then u3 (fun _ _ h => h)
  refine ⟨⟨fun _ => gk hr U3, fun _ => gk hr U3, fun _ => gk hr U3, fun _ => gk hr U3, fun _ => gk hr U3, fun _ => gk hr U3, fun _ => gk hc U3, trivial⟩, ?_⟩
  simp only [go_sem]
  exact W_ret ⟨.inr rfl, _, rfl, RH.lev0 b3, _, rfl, U3, b3, fun k hk => Nat.le_trans U2.l (l3 k hk)⟩
theorem clo136 {ix ic : Nat} {a : AskR} {vn vd vf : AV} (hr : H[ix]? = some (Block.row ⟨72, 14, AskR.cells a vn vd, false, false⟩)) (hc : H[ic]? = some (Block.row ⟨22, 1, [vf], false, false⟩)) (hf : BH H vf (le (u32 a.fid) 4)) (hn : TH H vn a.names) (hd : BH H vd a.data) (fit : a.Fit) : AC Try.prog 136 [.ptr ⟨0, ic, 0⟩, .ptr ⟨0, ix, 0⟩] ⟨H, S⟩ (NewB H S (le (u32 a.fid) 4 ++ le (u64 a.off) 8 ++ le (u32 a.count) 4)) := by
  refine AC_of_WE Try.func136 rfl ?_
  simp only [Try.ntmps136, List.length_cons, List.length_nil, List.replicate, List.cons_append, List.nil_append, mem_enter]
  have fn := fit.n
  have fd := fit.d
  have fl := fit.l
  (repeat refine W_seq ?_); refine W_regionT [] ?_
  simp only [go_sem]
  have U0 : UpdH no H H := UpdH.refl
  (repeat refine W_seq ?_); refine W_regionD [] [4, 7] [0, 1, 2, 3, 5, 6, 4, 7, 8] [0, 0, 2, 6, 15, 0, 32, 127, 255] mixedM (by kernel_rfl) (by kernel_rfl) (by kernel_rfl) ?_
  simp only [listed, go_sem]
  refine AD_read (v := vf) (fun M' => M'.get 0 ic = some (Block.row ⟨22, 1, [vf], false, false⟩)) rfl rfl (fun M' h => by show pureV (loadA Try.prog 22 (.ptr ⟨0, ic, 0⟩) M') M' = _; rw [ld22 h]; rfl) (gk hc U0) ?_
  simp only [go_sem]
  refine AD_read (v := .ptr ⟨0, ix, 8⟩) (fun M' => M'.get 0 ix = some (Block.row ⟨72, 14, AskR.cells a vn vd, false, false⟩)) rfl rfl (fun M' h => by show pureV (fieldAddrA Try.prog 72 (.ptr ⟨0, ix, 0⟩) 8 M') M' = _; rw [ka8 h]; rfl) (gk hr U0) ?_
  simp only [go_sem]
  refine AD_read (v := .int .i64 a.off) (fun M' => M'.get 0 ix = some (Block.row ⟨72, 14, AskR.cells a vn vd, false, false⟩)) rfl rfl (fun M' h => by show pureV (loadA Try.prog 3 (.ptr ⟨0, ix, 8⟩) M') M' = _; rw [kl8 h]; rfl) (gk hr U0) ?_
  simp only [go_sem]
  refine AD_convI rfl rfl ti3 ti23 rfl ?_
  simp only [go_sem]
  refine AD_read (v := .ptr ⟨0, ix, 9⟩) (fun M' => M'.get 0 ix = some (Block.row ⟨72, 14, AskR.cells a vn vd, false, false⟩)) rfl rfl (fun M' h => by show pureV (fieldAddrA Try.prog 72 (.ptr ⟨0, ix, 0⟩) 9 M') M' = _; rw [ka9 h]; rfl) (gk hr U0) ?_
  simp only [go_sem]
  refine AD_read (v := .int .i64 a.count) (fun M' => M'.get 0 ix = some (Block.row ⟨72, 14, AskR.cells a vn vd, false, false⟩)) rfl rfl (fun M' h => by show pureV (loadA Try.prog 3 (.ptr ⟨0, ix, 9⟩) M') M' = _; rw [kl9 h]; rfl) (gk hr U0) ?_
  simp only [go_sem]
  refine AD_call rfl rfl rfl (u64B hf (by simp [le_length]; try omega)) fun v M1 hd1 h1 => ?_
  obtain ⟨G1, rfl, u1, b1, l1⟩ := h1
  have U1 := U0.then u1 (fun _ _ h => h)
  refine ⟨⟨fun _ => gk hr U1, fun _ => gk hr U1, fun _ => gk hr U1, fun _ => gk hr U1, fun _ => gk hc U1, trivial⟩, ?_⟩
  simp only [go_sem]
  refine AD_call rfl rfl rfl (put32 b1 (by simp [le_length]; try omega)) fun v M1 hd1 h1 => ?_
  obtain ⟨G2, rfl, u2, b2, l2⟩ := h1
  have U2 := U1.then u2 (fun _ _ h => h)
  refine ⟨⟨fun _ => gk hr U2, fun _ => gk hr U2, fun _ => gk hr U2, fun _ => gk hr U2, fun _ => gk hc U2, trivial⟩, ?_⟩
  simp only [go_sem]
  exact W_ret ⟨.inr rfl, _, rfl, RH.lev0 b2, _, rfl, U2, b2, fun k hk => Nat.le_trans U1.l (l2 k hk)⟩
theorem clo137 {ix ic : Nat} {a : AskR} {vn vd vf : AV} (hr : H[ix]? = some (Block.row ⟨72, 14, AskR.cells a vn vd, false, false⟩)) (hc : H[ic]? = some (Block.row ⟨22, 1, [vf], false, false⟩)) (hf : BH H vf (le (u32 a.fid) 4)) (hn : TH H vn a.names) (hd : BH H vd a.data) (fit : a.Fit) : AC Try.prog 137 [.ptr ⟨0, ic, 0⟩, .ptr ⟨0, ix, 0⟩] ⟨H, S⟩ (NewB H S (le (u32 a.fid) 4 ++ le (u64 a.off) 8 ++ le a.data.length 4 ++ a.data)) := by
  refine AC_of_WE Try.func137 rfl ?_
  simp only [Try.ntmps137, List.length_cons, List.length_nil, List.replicate, List.cons_append, List.nil_append, mem_enter]
  have fn := fit.n
  have fd := fit.d
  have fl := fit.l
  (repeat refine W_seq ?_); refine W_regionT [] ?_
  simp only [go_sem]
  have U0 : UpdH no H H := UpdH.refl
  (repeat refine W_seq ?_); refine W_regionD [] [4, 7] [0, 1, 2, 3, 5, 6, 4, 7, 8] [0, 0, 2, 6, 15, 0, 32, 127, 255] mixedM (by kernel_rfl) (by kernel_rfl) (by kernel_rfl) ?_
  simp only [listed, go_sem]
  refine AD_read (v := vf) (fun M' => M'.get 0 ic = some (Block.row ⟨22, 1, [vf], false, false⟩)) rfl rfl (fun M' h => by show pureV (loadA Try.prog 22 (.ptr ⟨0, ic, 0⟩) M') M' = _; rw [ld22 h]; rfl) (gk hc U0) ?_
  simp only [go_sem]
  refine AD_read (v := .ptr ⟨0, ix, 8⟩) (fun M' => M'.get 0 ix = some (Block.row ⟨72, 14, AskR.cells a vn vd, false, false⟩)) rfl rfl (fun M' h => by show pureV (fieldAddrA Try.prog 72 (.ptr ⟨0, ix, 0⟩) 8 M') M' = _; rw [ka8 h]; rfl) (gk hr U0) ?_
  simp only [go_sem]
  refine AD_read (v := .int .i64 a.off) (fun M' => M'.get 0 ix = some (Block.row ⟨72, 14, AskR.cells a vn vd, false, false⟩)) rfl rfl (fun M' h => by show pureV (loadA Try.prog 3 (.ptr ⟨0, ix, 8⟩) M') M' = _; rw [kl8 h]; rfl) (gk hr U0) ?_
  simp only [go_sem]
  refine AD_convI rfl rfl ti3 ti23 rfl ?_
  simp only [go_sem]
  refine AD_read (v := .ptr ⟨0, ix, 13⟩) (fun M' => M'.get 0 ix = some (Block.row ⟨72, 14, AskR.cells a vn vd, false, false⟩)) rfl rfl (fun M' h => by show pureV (fieldAddrA Try.prog 72 (.ptr ⟨0, ix, 0⟩) 13 M') M' = _; rw [ka13 h]; rfl) (gk hr U0) ?_
  simp only [go_sem]
  refine AD_read (v := vd) (fun M' => M'.get 0 ix = some (Block.row ⟨72, 14, AskR.cells a vn vd, false, false⟩)) rfl rfl (fun M' h => by show pureV (loadA Try.prog 22 (.ptr ⟨0, ix, 13⟩) M') M' = _; rw [kl13 h]; rfl) (gk hr U0) ?_
  simp only [go_sem]
  refine AD_call rfl rfl rfl (u64B hf (by simp [le_length]; try omega)) fun v M1 hd1 h1 => ?_
  obtain ⟨G1, rfl, u1, b1, l1⟩ := h1
  have U1 := U0.then u1 (fun _ _ h => h)
  refine ⟨⟨fun _ => gk hr U1, fun _ => gk hr U1, fun _ => gk hr U1, fun _ => gk hr U1, fun _ => gk hc U1, trivial⟩, ?_⟩
  simp only [go_sem]
  refine AD_call rfl rfl rfl (dataB b1 (hd.new U1) (by simp [le_length]; try omega) (by omega)) fun v M1 hd1 h1 => ?_
  obtain ⟨G2, rfl, u2, b2, l2⟩ := h1
  have U2 := U1.then u2 (fun _ _ h => h)
  refine ⟨⟨fun _ => gk hr U2, fun _ => gk hr U2, fun _ => gk hr U2, fun _ => gk hr U2, fun _ => gk hc U2, trivial⟩, ?_⟩
  simp only [go_sem]
  exact W_ret ⟨.inr rfl, _, rfl, RH.lev0 b2, _, rfl, U2, b2, fun k hk => Nat.le_trans U1.l (l2 k hk)⟩
theorem clo138 {ix ic : Nat} {a : AskR} {vn vd vf : AV} (hr : H[ix]? = some (Block.row ⟨72, 14, AskR.cells a vn vd, false, false⟩)) (hc : H[ic]? = some (Block.row ⟨22, 1, [vf], false, false⟩)) (hf : BH H vf (le (u32 a.fid) 4)) (hn : TH H vn a.names) (hd : BH H vd a.data) (fit : a.Fit) : AC Try.prog 138 [.ptr ⟨0, ic, 0⟩, .ptr ⟨0, ix, 0⟩] ⟨H, S⟩ (NewB H S (le (u32 a.fid) 4 ++ le (u32 a.size) 4 ++ le a.name.length 2 ++ a.name)) := by
  refine AC_of_WE Try.func138 rfl ?_
  simp only [Try.ntmps138, List.length_cons, List.length_nil, List.replicate, List.cons_append, List.nil_append, mem_enter]
  have fn := fit.n
  have fd := fit.d
  have fl := fit.l
  (repeat refine W_seq ?_); refine W_regionT [] ?_
  simp only [go_sem]
  have U0 : UpdH no H H := UpdH.refl
  (repeat refine W_seq ?_); refine W_regionD [] [3, 6] [0, 1, 2, 4, 5, 3, 6, 7] [0, 0, 2, 7, 0, 16, 63, 127] mixedM (by kernel_rfl) (by kernel_rfl) (by kernel_rfl) ?_
  simp only [listed, go_sem]
  refine AD_read (v := vf) (fun M' => M'.get 0 ic = some (Block.row ⟨22, 1, [vf], false, false⟩)) rfl rfl (fun M' h => by show pureV (loadA Try.prog 22 (.ptr ⟨0, ic, 0⟩) M') M' = _; rw [ld22 h]; rfl) (gk hc U0) ?_
  simp only [go_sem]
  refine AD_read (v := .ptr ⟨0, ix, 12⟩) (fun M' => M'.get 0 ix = some (Block.row ⟨72, 14, AskR.cells a vn vd, false, false⟩)) rfl rfl (fun M' h => by show pureV (fieldAddrA Try.prog 72 (.ptr ⟨0, ix, 0⟩) 12 M') M' = _; rw [ka12 h]; rfl) (gk hr U0) ?_
  simp only [go_sem]
  refine AD_read (v := .int .i64 a.size) (fun M' => M'.get 0 ix = some (Block.row ⟨72, 14, AskR.cells a vn vd, false, false⟩)) rfl rfl (fun M' h => by show pureV (loadA Try.prog 3 (.ptr ⟨0, ix, 12⟩) M') M' = _; rw [kl12 h]; rfl) (gk hr U0) ?_
  simp only [go_sem]
  refine AD_read (v := .ptr ⟨0, ix, 10⟩) (fun M' => M'.get 0 ix = some (Block.row ⟨72, 14, AskR.cells a vn vd, false, false⟩)) rfl rfl (fun M' h => by show pureV (fieldAddrA Try.prog 72 (.ptr ⟨0, ix, 0⟩) 10 M') M' = _; rw [ka10 h]; rfl) (gk hr U0) ?_
  simp only [go_sem]
  refine AD_read (v := .str a.name) (fun M' => M'.get 0 ix = some (Block.row ⟨72, 14, AskR.cells a vn vd, false, false⟩)) rfl rfl (fun M' h => by show pureV (loadA Try.prog 9 (.ptr ⟨0, ix, 10⟩) M') M' = _; rw [kl10 h]; rfl) (gk hr U0) ?_
  simp only [go_sem]
  refine AD_call rfl rfl rfl (put32 hf (by simp [le_length]; try omega)) fun v M1 hd1 h1 => ?_
  obtain ⟨G1, rfl, u1, b1, l1⟩ := h1
  have U1 := U0.then u1 (fun _ _ h => h)
  refine ⟨⟨fun _ => gk hr U1, fun _ => gk hr U1, fun _ => gk hr U1, fun _ => gk hr U1, fun _ => gk hc U1, trivial⟩, ?_⟩
  simp only [go_sem]
  refine AD_call rfl rfl rfl (textB b1 (by simp [le_length]; try omega) (by omega)) fun v M1 hd1 h1 => ?_
  obtain ⟨G2, rfl, u2, b2, l2⟩ := h1
  have U2 := U1.then u2 (fun _ _ h => h)
  refine ⟨⟨fun _ => gk hr U2, fun _ => gk hr U2, fun _ => gk hr U2, fun _ => gk hr U2, fun _ => gk hc U2, trivial⟩, ?_⟩
  simp only [go_sem]
  exact W_ret ⟨.inr rfl, _, rfl, RH.lev0 b2, _, rfl, U2, b2, fun k hk => Nat.le_trans U1.l (l2 k hk)⟩
theorem texts_len : ∀ {l : List (List UInt8)}, (∀ s ∈ l, s.length ≤ 255) → (textsOf l).length ≤ 257 * l.length
  | [], _ => by simp [textsOf]
  | s :: l, h => by
    have h1 := texts_len (l := l) fun x hx => h x (by simp [hx])
    have h2 := h s (by simp)
    simp only [textsOf, List.flatMap_cons, List.length_append, le_length, List.length_cons] at h1 ⊢
    omega
theorem texts_succ {l : List (List UInt8)} {i : Nat} (h : i < l.length) : textsOf (l.take (i + 1)) = textsOf (l.take i) ++ le l[i].length 2 ++ l[i] := by
  unfold textsOf
  rw [List.take_add_one, List.getElem?_eq_getElem h, Option.toList_some, List.flatMap_append, List.flatMap_singleton, List.append_assoc]
theorem clo133 {ix ic : Nat} {a : AskR} {vn vd vf : AV} (hr : H[ix]? = some (Block.row ⟨72, 14, AskR.cells a vn vd, false, false⟩)) (hc : H[ic]? = some (Block.row ⟨22, 1, [vf], false, false⟩)) (hf : BH H vf (le (u32 a.fid) 4)) (hn : TH H vn a.names) (hd : BH H vd a.data) (fit : a.Fit) : AC Try.prog 133 [.ptr ⟨0, ic, 0⟩, .ptr ⟨0, ix, 0⟩] ⟨H, S⟩ (NewB H S (le (u32 a.fid) 4 ++ le (u32 a.newfid) 4 ++ le (u16 a.names.length) 2 ++ textsOf a.names)) := by
  refine AC_of_WE Try.func133 rfl ?_
  simp only [Try.ntmps133, List.length_cons, List.length_nil, List.replicate, List.cons_append, List.nil_append, mem_enter]
  have fn := fit.n
  have fd := fit.d
  have fl := fit.l
  (repeat refine W_seq ?_); refine W_regionT [] ?_
  simp only [go_sem]
  have U0 : UpdH no H H := UpdH.refl
  (repeat refine W_seq ?_); refine W_regionD [] [3, 8] [0, 1, 2, 4, 5, 6, 7, 3, 8, 9] [0, 0, 2, 7, 0, 16, 48, 112, 255, 511] mixedM (by kernel_rfl) (by kernel_rfl) (by kernel_rfl) ?_
  simp only [listed, go_sem]
  refine AD_read (v := vf) (fun M' => M'.get 0 ic = some (Block.row ⟨22, 1, [vf], false, false⟩)) rfl rfl (fun M' h => by show pureV (loadA Try.prog 22 (.ptr ⟨0, ic, 0⟩) M') M' = _; rw [ld22 h]; rfl) (gk hc U0) ?_
  simp only [go_sem]
  refine AD_read (v := .ptr ⟨0, ix, 3⟩) (fun M' => M'.get 0 ix = some (Block.row ⟨72, 14, AskR.cells a vn vd, false, false⟩)) rfl rfl (fun M' h => by show pureV (fieldAddrA Try.prog 72 (.ptr ⟨0, ix, 0⟩) 3 M') M' = _; rw [ka3 h]; rfl) (gk hr U0) ?_
  simp only [go_sem]
  refine AD_read (v := .int .i64 a.newfid) (fun M' => M'.get 0 ix = some (Block.row ⟨72, 14, AskR.cells a vn vd, false, false⟩)) rfl rfl (fun M' h => by show pureV (loadA Try.prog 3 (.ptr ⟨0, ix, 3⟩) M') M' = _; rw [kl3 h]; rfl) (gk hr U0) ?_
  simp only [go_sem]
  refine AD_read (v := .ptr ⟨0, ix, 11⟩) (fun M' => M'.get 0 ix = some (Block.row ⟨72, 14, AskR.cells a vn vd, false, false⟩)) rfl rfl (fun M' h => by show pureV (fieldAddrA Try.prog 72 (.ptr ⟨0, ix, 0⟩) 11 M') M' = _; rw [ka11 h]; rfl) (gk hr U0) ?_
  simp only [go_sem]
  refine AD_read (v := vn) (fun M' => M'.get 0 ix = some (Block.row ⟨72, 14, AskR.cells a vn vd, false, false⟩)) rfl rfl (fun M' h => by show pureV (loadA Try.prog 70 (.ptr ⟨0, ix, 11⟩) M') M' = _; rw [kl11 h]; rfl) (gk hr U0) ?_
  simp only [go_sem]
  refine AD_read (v := .int .i64 a.names.length) (fun M' => lenA Try.prog 70 vn M' = some (.int .i64 a.names.length)) rfl rfl (fun M' h => by show pureV (lenA Try.prog 70 vn M') M' = _; rw [h]; rfl) ((hn.new U0).len) ?_
  simp only [go_sem]
  refine AD_convI rfl rfl ti3 ti24 rfl ?_
  simp only [go_sem]
  refine AD_call rfl rfl rfl (put32 hf (by simp [le_length]; try omega)) fun v M1 hd1 h1 => ?_
  obtain ⟨G1, rfl, u1, b1, l1⟩ := h1
  have U1 := U0.then u1 (fun _ _ h => h)
  refine ⟨⟨fun _ => (hn.new U1).len, fun _ => gk hr U1, fun _ => gk hr U1, fun _ => gk hr U1, fun _ => gk hr U1, fun _ => gk hc U1, trivial⟩, ?_⟩
  simp only [go_sem]
  refine AD_call rfl rfl rfl (u16B b1 (by simp [le_length]; try omega)) fun v M1 hd1 h1 => ?_
  obtain ⟨G2, rfl, u2, b2, l2⟩ := h1
  have U2 := U1.then u2 (fun _ _ h => h)
  refine ⟨⟨fun _ => (hn.new U2).len, fun _ => gk hr U2, fun _ => gk hr U2, fun _ => gk hr U2, fun _ => gk hr U2, fun _ => gk hc U2, trivial⟩, ?_⟩
  simp only [go_sem]
  (repeat refine W_seq ?_); refine W_regionT [] ?_
  simp only [go_sem, ka11 (gk hr U2), kl11 (gk hr U2), (hn.new U2).len]
  (repeat refine W_seq ?_)
  refine W_block (W_loop (L_inv (fun j env M' => ∃ (x2 x4 x5 x6 x7 x8 x9 x10 x11 x12 x13 x14 x15 x19 x20 x21 x22 x23 x24 x25 x26 : AV) (vb : AV) (i : Nat) (G' : List Block), env = [.ptr ⟨0, ic, 0⟩, .ptr ⟨0, ix, 0⟩, x2, vb, x4, x5, x6, x7, x8, x9, x10, x11, x12, x13, x14, x15, vn, .int .i64 a.names.length, .int .i64 i, x19, x20, x21, x22, x23, x24, x25, x26] ∧ i + j = a.names.length ∧ M' = ⟨G', [] :: S⟩ ∧ UpdH no H G' ∧ BH G' vb (le (u32 a.fid) 4 ++ le (u32 a.newfid) 4 ++ le (u16 a.names.length) 2 ++ textsOf (a.names.take i)) ∧ ∀ k, vb.loc k → H.length ≤ k) (fun j env M2 => ?_) (a.names.length) ?_))
  case refine_2 => exact ⟨_, _, _, _, _, _, _, _, _, _, _, _, _, _, _, _, _, _, _, _, _, _, 0, _, rfl, by omega, rfl, U2, by simpa [textsOf] using b2, fun k hk => Nat.le_trans U1.l (l2 k hk)⟩
  refine exE fun x2 => exE fun x4 => exE fun x5 => exE fun x6 => exE fun x7 => exE fun x8 => exE fun x9 => exE fun x10 => exE fun x11 => exE fun x12 => exE fun x13 => exE fun x14 => exE fun x15 => exE fun x19 => exE fun x20 => exE fun x21 => exE fun x22 => exE fun x23 => exE fun x24 => exE fun x25 => exE fun x26 => ?_
  rintro ⟨vb, i, G, rfl, hij, rfl, uG, bb, hvb⟩
  (repeat refine W_seq ?_); refine W_regionT [] ?_
  simp only [go_sem]
  (repeat refine W_seq ?_)
  refine W_cond_if rfl (fun hb => ?_) (fun hb => ?_)
  · have hi : i < a.names.length := by simpa using hb
    refine W_skip ?_
    simp only [go_sem]
    (repeat refine W_seq ?_)
    refine W_block ?_
    have a70 := at70 (S := [] :: S) (hn.new uG) hi
    have fs := fit.s _ (List.getElem_mem hi)
    have ft := texts_len (l := a.names.take i) fun s hs => fit.s s (List.mem_of_mem_take hs)
    rw [List.length_take] at ft
    (repeat refine W_seq ?_); refine W_regionT [] ?_
    simp only [go_sem, a70.1, a70.2]
    (repeat refine W_seq ?_); refine W_regionT [] ?_
    simp only [go_sem]
    refine AT_call rfl rfl (textB bb (by simp [le_length]; omega) (by omega)) fun v M1 hd1 h1 => ?_
    obtain ⟨G3, rfl, u3, b3, l3⟩ := h1
    rw [List.append_assoc, List.append_assoc, ← List.append_assoc (textsOf _), ← texts_succ hi] at b3
    have U3 := uG.then u3 (fun _ _ h => h)
    simp only [go_sem]
    (repeat refine W_seq ?_); refine W_regionT [] ?_
    simp only [go_sem, show (i : Int) + 1 = ((i + 1 : Nat) : Int) from rfl, wrap_i64 (n := ((i + 1 : Nat) : Int)) (by omega) (by omega)]
    refine ⟨j - 1, by omega, _, _, _, _, _, _, _, _, _, _, _, _, _, _, _, _, _, _, _, _, _, _, i + 1, _, rfl, by omega, rfl, U3, b3, fun k hk => Nat.le_trans uG.l (l3 k hk)⟩
  · have hi : a.names.length = i := by simp at hb; omega
    subst hi
    (repeat refine W_seq ?_)
    refine W_exit ?_
    simp only [go_sem]
    (repeat refine W_seq ?_); refine W_regionT [] ?_
    simp only [go_sem]
    rw [List.take_length] at bb
    exact W_ret ⟨.inr rfl, _, rfl, RH.lev0 bb, _, rfl, uG, bb, hvb⟩
def askL (ix ic : Nat) : KV := [(100, .fn (.func 130) [] [.ptr ⟨0, ix, 0⟩]), (104, .fn (.func 131) [] [.ptr ⟨0, ic, 0⟩, .ptr ⟨0, ix, 0⟩]), (108, .fn (.func 132) [] [.ptr ⟨0, ix, 0⟩]), (110, .fn (.func 133) [] [.ptr ⟨0, ic, 0⟩, .ptr ⟨0, ix, 0⟩]), (112, .fn (.func 134) [] [.ptr ⟨0, ic, 0⟩, .ptr ⟨0, ix, 0⟩]), (114, .fn (.func 135) [] [.ptr ⟨0, ic, 0⟩, .ptr ⟨0, ix, 0⟩]), (116, .fn (.func 136) [] [.ptr ⟨0, ic, 0⟩, .ptr ⟨0, ix, 0⟩]), (118, .fn (.func 137) [] [.ptr ⟨0, ic, 0⟩, .ptr ⟨0, ix, 0⟩]), (120, .fn (.func 129) [] [.ptr ⟨0, ic, 0⟩]), (122, .fn (.func 129) [] [.ptr ⟨0, ic, 0⟩]), (124, .fn (.func 129) [] [.ptr ⟨0, ic, 0⟩]), (126, .fn (.func 138) [] [.ptr ⟨0, ic, 0⟩, .ptr ⟨0, ix, 0⟩])]
theorem newmap (ix ic : Nat) : Block.map [] = Block.map (kv .i64 ((askL ix ic).take 0)) := (rfl)
theorem ins147g {es es' : KV} {n : Int} {v : AV} (hv : v.lev0 = true) (h : putK es n v = es') : updates Try.prog 147 (.map H.length) (.int .i64 n) v ⟨H ++ [.map (kv .i64 es)], S⟩ = some (.undef, ⟨H ++ [.map (kv .i64 es')], S⟩) := by
  subst h
  have hg : (⟨H ++ [.map (kv .i64 es)], S⟩ : Mem).get 0 H.length = some (.map (kv .i64 es)) := by rw [mem_get0]; exact List.getElem?_concat_length ..
  rw [put_kv (es := es) ti147 rfl ti3 rfl hv hg, mem_set0, List.set_append_right _ _ (Nat.le_refl _), Nat.sub_self]; rfl
theorem ins0 (ix ic : Nat) : updates Try.prog 147 (.map H.length) (.int .i64 100) (.fn (.func 130) [] [.ptr ⟨0, ix, 0⟩]) ⟨H ++ [.map (kv .i64 ((askL ix ic).take 0))], S⟩ = some (.undef, ⟨H ++ [.map (kv .i64 ((askL ix ic).take 1))], S⟩) := ins147g rfl rfl
theorem askMap100 {ix ic : Nat} : getK ((askL ix ic).take 12) 100 = some (.fn (.func 130) [] [.ptr ⟨0, ix, 0⟩]) := by rfl
theorem ins1 (ix ic : Nat) : updates Try.prog 147 (.map H.length) (.int .i64 104) (.fn (.func 131) [] [.ptr ⟨0, ic, 0⟩, .ptr ⟨0, ix, 0⟩]) ⟨H ++ [.map (kv .i64 ((askL ix ic).take 1))], S⟩ = some (.undef, ⟨H ++ [.map (kv .i64 ((askL ix ic).take 2))], S⟩) := ins147g rfl rfl
theorem askMap104 {ix ic : Nat} : getK ((askL ix ic).take 12) 104 = some (.fn (.func 131) [] [.ptr ⟨0, ic, 0⟩, .ptr ⟨0, ix, 0⟩]) := by rfl
theorem ins2 (ix ic : Nat) : updates Try.prog 147 (.map H.length) (.int .i64 108) (.fn (.func 132) [] [.ptr ⟨0, ix, 0⟩]) ⟨H ++ [.map (kv .i64 ((askL ix ic).take 2))], S⟩ = some (.undef, ⟨H ++ [.map (kv .i64 ((askL ix ic).take 3))], S⟩) := ins147g rfl rfl
theorem askMap108 {ix ic : Nat} : getK ((askL ix ic).take 12) 108 = some (.fn (.func 132) [] [.ptr ⟨0, ix, 0⟩]) := by rfl
theorem ins3 (ix ic : Nat) : updates Try.prog 147 (.map H.length) (.int .i64 110) (.fn (.func 133) [] [.ptr ⟨0, ic, 0⟩, .ptr ⟨0, ix, 0⟩]) ⟨H ++ [.map (kv .i64 ((askL ix ic).take 3))], S⟩ = some (.undef, ⟨H ++ [.map (kv .i64 ((askL ix ic).take 4))], S⟩) := ins147g rfl rfl
theorem askMap110 {ix ic : Nat} : getK ((askL ix ic).take 12) 110 = some (.fn (.func 133) [] [.ptr ⟨0, ic, 0⟩, .ptr ⟨0, ix, 0⟩]) := by rfl
theorem ins4 (ix ic : Nat) : updates Try.prog 147 (.map H.length) (.int .i64 112) (.fn (.func 134) [] [.ptr ⟨0, ic, 0⟩, .ptr ⟨0, ix, 0⟩]) ⟨H ++ [.map (kv .i64 ((askL ix ic).take 4))], S⟩ = some (.undef, ⟨H ++ [.map (kv .i64 ((askL ix ic).take 5))], S⟩) := ins147g rfl rfl
theorem askMap112 {ix ic : Nat} : getK ((askL ix ic).take 12) 112 = some (.fn (.func 134) [] [.ptr ⟨0, ic, 0⟩, .ptr ⟨0, ix, 0⟩]) := by rfl
theorem ins5 (ix ic : Nat) : updates Try.prog 147 (.map H.length) (.int .i64 114) (.fn (.func 135) [] [.ptr ⟨0, ic, 0⟩, .ptr ⟨0, ix, 0⟩]) ⟨H ++ [.map (kv .i64 ((askL ix ic).take 5))], S⟩ = some (.undef, ⟨H ++ [.map (kv .i64 ((askL ix ic).take 6))], S⟩) := ins147g rfl rfl
theorem askMap114 {ix ic : Nat} : getK ((askL ix ic).take 12) 114 = some (.fn (.func 135) [] [.ptr ⟨0, ic, 0⟩, .ptr ⟨0, ix, 0⟩]) := by rfl
theorem ins6 (ix ic : Nat) : updates Try.prog 147 (.map H.length) (.int .i64 116) (.fn (.func 136) [] [.ptr ⟨0, ic, 0⟩, .ptr ⟨0, ix, 0⟩]) ⟨H ++ [.map (kv .i64 ((askL ix ic).take 6))], S⟩ = some (.undef, ⟨H ++ [.map (kv .i64 ((askL ix ic).take 7))], S⟩) := ins147g rfl rfl
theorem askMap116 {ix ic : Nat} : getK ((askL ix ic).take 12) 116 = some (.fn (.func 136) [] [.ptr ⟨0, ic, 0⟩, .ptr ⟨0, ix, 0⟩]) := by rfl
theorem ins7 (ix ic : Nat) : updates Try.prog 147 (.map H.length) (.int .i64 118) (.fn (.func 137) [] [.ptr ⟨0, ic, 0⟩, .ptr ⟨0, ix, 0⟩]) ⟨H ++ [.map (kv .i64 ((askL ix ic).take 7))], S⟩ = some (.undef, ⟨H ++ [.map (kv .i64 ((askL ix ic).take 8))], S⟩) := ins147g rfl rfl
theorem askMap118 {ix ic : Nat} : getK ((askL ix ic).take 12) 118 = some (.fn (.func 137) [] [.ptr ⟨0, ic, 0⟩, .ptr ⟨0, ix, 0⟩]) := by rfl
theorem ins8 (ix ic : Nat) : updates Try.prog 147 (.map H.length) (.int .i64 120) (.fn (.func 129) [] [.ptr ⟨0, ic, 0⟩]) ⟨H ++ [.map (kv .i64 ((askL ix ic).take 8))], S⟩ = some (.undef, ⟨H ++ [.map (kv .i64 ((askL ix ic).take 9))], S⟩) := ins147g rfl rfl
theorem askMap120 {ix ic : Nat} : getK ((askL ix ic).take 12) 120 = some (.fn (.func 129) [] [.ptr ⟨0, ic, 0⟩]) := by rfl
theorem ins9 (ix ic : Nat) : updates Try.prog 147 (.map H.length) (.int .i64 122) (.fn (.func 129) [] [.ptr ⟨0, ic, 0⟩]) ⟨H ++ [.map (kv .i64 ((askL ix ic).take 9))], S⟩ = some (.undef, ⟨H ++ [.map (kv .i64 ((askL ix ic).take 10))], S⟩) := ins147g rfl rfl
theorem askMap122 {ix ic : Nat} : getK ((askL ix ic).take 12) 122 = some (.fn (.func 129) [] [.ptr ⟨0, ic, 0⟩]) := by rfl
theorem ins10 (ix ic : Nat) : updates Try.prog 147 (.map H.length) (.int .i64 124) (.fn (.func 129) [] [.ptr ⟨0, ic, 0⟩]) ⟨H ++ [.map (kv .i64 ((askL ix ic).take 10))], S⟩ = some (.undef, ⟨H ++ [.map (kv .i64 ((askL ix ic).take 11))], S⟩) := ins147g rfl rfl
theorem askMap124 {ix ic : Nat} : getK ((askL ix ic).take 12) 124 = some (.fn (.func 129) [] [.ptr ⟨0, ic, 0⟩]) := by rfl
theorem ins11 (ix ic : Nat) : updates Try.prog 147 (.map H.length) (.int .i64 126) (.fn (.func 138) [] [.ptr ⟨0, ic, 0⟩, .ptr ⟨0, ix, 0⟩]) ⟨H ++ [.map (kv .i64 ((askL ix ic).take 11))], S⟩ = some (.undef, ⟨H ++ [.map (kv .i64 ((askL ix ic).take 12))], S⟩) := ins147g rfl rfl
theorem askMap126 {ix ic : Nat} : getK ((askL ix ic).take 12) 126 = some (.fn (.func 138) [] [.ptr ⟨0, ic, 0⟩, .ptr ⟨0, ix, 0⟩]) := by rfl
theorem body95 {x : AV} {a : AskR} (hx : AskV H x a) (fit : a.Fit) (hk0 : a.ty = 100 ∨ a.ty = 104 ∨ a.ty = 108 ∨ a.ty = 110 ∨ a.ty = 112 ∨ a.ty = 114 ∨ a.ty = 116 ∨ a.ty = 118 ∨ a.ty = 120 ∨ a.ty = 122 ∨ a.ty = 124 ∨ a.ty = 126) : AC Try.prog 95 [x] ⟨H, S⟩ (NewC H S a.body) := by
  refine AC_of_WE Try.func95 rfl ?_
  simp only [Try.ntmps95, List.length_cons, List.length_nil, List.replicate, List.cons_append, List.nil_append, mem_enter]
  obtain ⟨vn, vd, rfl, hn0, hd0⟩ := hx
  have c11 := cells_st2 a hn0.one.1 hd0.one.1
  (repeat refine W_seq ?_); refine W_regionT [1] ?_
  simp only [go_sem, kboxH c11]
  have hr0 : (H ++ [Block.row ⟨72, 14, AskR.cells a vn vd, false, false⟩])[H.length]? = some (Block.row ⟨72, 14, AskR.cells a vn vd, false, false⟩) := by simp
  have uA := UpdH.push (p := no) (H := H) (bs := [Block.row ⟨72, 14, AskR.cells a vn vd, false, false⟩])
  generalize H.length = ix at hr0
  generalize H ++ [Block.row ⟨72, 14, AskR.cells a vn vd, false, false⟩] = H1 at hr0 uA
  (repeat refine W_seq ?_); refine W_regionT [3] ?_
  simp only [go_sem, ka2 (get0 hr0), kl2 (get0 hr0)]
  refine AT_call rfl rfl (put32 BH.nil (by simp)) fun v M1 hd1 h1 => ?_
  obtain ⟨G1, rfl, u1, b1, l1⟩ := h1
  have s22 := st22 (H := G1) (S := [] :: S) b1.one.1 b1.one.2
  simp only [go_sem, alloc22, s22]
  have hc1 : (G1 ++ [Block.row ⟨22, 1, [v], false, false⟩])[G1.length]? = some (Block.row ⟨22, 1, [v], false, false⟩) := by simp
  have uB := u1.then (UpdH.push (p := no) (bs := [Block.row ⟨22, 1, [v], false, false⟩])) (fun _ _ h => h)
  have b2 := b1.new (UpdH.push (p := no) (bs := [Block.row ⟨22, 1, [v], false, false⟩]))
  generalize G1.length = ic at hc1
  generalize G1 ++ [Block.row ⟨22, 1, [v], false, false⟩] = H2 at hc1 uB b2
  rename AV => vf
  (repeat refine W_seq ?_); refine W_regionT [] ?_
  simp only [go_sem]
  (repeat refine W_seq ?_); refine W_regionT [] ?_
  simp (maxSteps := 1000000) only [go_sem, newmap ix ic, ins0 ix ic, ins1 ix ic, ins2 ix ic, ins3 ix ic, ins4 ix ic, ins5 ix ic, ins6 ix ic, ins7 ix ic, ins8 ix ic, ins9 ix ic, ins10 ix ic, ins11 ix ic]
  have hm : (H2 ++ [Block.map (kv .i64 ((askL ix ic).take 12))])[H2.length]? = some (Block.map (kv .i64 ((askL ix ic).take 12))) := by simp
  have uC := UpdH.push (p := no) (H := H2) (bs := [Block.map (kv .i64 ((askL ix ic).take 12))])
  generalize H2.length = im at hm
  generalize H2 ++ [Block.map (kv .i64 ((askL ix ic).take 12))] = H3 at hm uC
  have hr3 := uC.get (uB.get hr0 (fun h => h)) (fun h => h)
  have hc3 := uC.get hc1 (fun h => h)
  have b3 := b2.new uC
  have uD := (uA.then uB (fun _ _ h => h)).then uC (fun _ _ h => h)
  have hn3 := hn0.new uD
  have hd3 := hd0.new uD
  rcases hk0 with hk | hk | hk | hk | hk | hk | hk | hk | hk | hk | hk | hk
  · have lk : lookupA Try.prog 147 (.map im) (.int .i64 a.ty) false ⟨H3, [] :: S⟩ = some (.fn (.func 130) [] [.ptr ⟨0, ix, 0⟩]) := by
      rw [lookup1_kv ti147 rfl ti3 rfl ti146 (get0 hm), hk, askMap100]; rfl
    (repeat refine W_seq ?_); refine W_regionT [] ?_
    simp only [go_sem, ka0 (get0 hr3), kl0 (get0 hr3), lk]
    refine AT_call rfl rfl (clo130 (vf := vf) (ic := ic) hr3 b3 hn3 hd3 fit) fun v M1 hd1 h1 => ?_
    obtain ⟨G4, rfl, u4, b4, l4⟩ := h1
    rw [show le (u32 a.msize) 4 ++ le a.name.length 2 ++ a.name = a.body from (body100 hk).symm] at b4
    simp only [go_sem]
    exact W_ret ⟨.inr rfl, _, rfl, RH.lev0 b4, _, rfl, uD.then u4 (fun _ _ h => h), b4⟩
  · have lk : lookupA Try.prog 147 (.map im) (.int .i64 a.ty) false ⟨H3, [] :: S⟩ = some (.fn (.func 131) [] [.ptr ⟨0, ic, 0⟩, .ptr ⟨0, ix, 0⟩]) := by
      rw [lookup1_kv ti147 rfl ti3 rfl ti146 (get0 hm), hk, askMap104]; rfl
    (repeat refine W_seq ?_); refine W_regionT [] ?_
    simp only [go_sem, ka0 (get0 hr3), kl0 (get0 hr3), lk]
    refine AT_call rfl rfl (clo131 (vf := vf) (ic := ic) hr3 hc3 b3 hn3 hd3 fit) fun v M1 hd1 h1 => ?_
    obtain ⟨G4, rfl, u4, b4, l4⟩ := h1
    rw [show le (u32 a.fid) 4 ++ le a.name.length 2 ++ a.name = a.body from (body104 hk).symm] at b4
    simp only [go_sem]
    exact W_ret ⟨.inr rfl, _, rfl, RH.lev0 b4, _, rfl, uD.then u4 (fun _ _ h => h), b4⟩
  · have lk : lookupA Try.prog 147 (.map im) (.int .i64 a.ty) false ⟨H3, [] :: S⟩ = some (.fn (.func 132) [] [.ptr ⟨0, ix, 0⟩]) := by
      rw [lookup1_kv ti147 rfl ti3 rfl ti146 (get0 hm), hk, askMap108]; rfl
    (repeat refine W_seq ?_); refine W_regionT [] ?_
    simp only [go_sem, ka0 (get0 hr3), kl0 (get0 hr3), lk]
    refine AT_call rfl rfl (clo132 (vf := vf) (ic := ic) hr3 b3 hn3 hd3 fit) fun v M1 hd1 h1 => ?_
    obtain ⟨G4, rfl, u4, b4, l4⟩ := h1
    rw [show le (u16 a.oldtag) 2 = a.body from (body108 hk).symm] at b4
    simp only [go_sem]
    exact W_ret ⟨.inr rfl, _, rfl, RH.lev0 b4, _, rfl, uD.then u4 (fun _ _ h => h), b4⟩
  · have lk : lookupA Try.prog 147 (.map im) (.int .i64 a.ty) false ⟨H3, [] :: S⟩ = some (.fn (.func 133) [] [.ptr ⟨0, ic, 0⟩, .ptr ⟨0, ix, 0⟩]) := by
      rw [lookup1_kv ti147 rfl ti3 rfl ti146 (get0 hm), hk, askMap110]; rfl
    (repeat refine W_seq ?_); refine W_regionT [] ?_
    simp only [go_sem, ka0 (get0 hr3), kl0 (get0 hr3), lk]
    refine AT_call rfl rfl (clo133 (vf := vf) (ic := ic) hr3 hc3 b3 hn3 hd3 fit) fun v M1 hd1 h1 => ?_
    obtain ⟨G4, rfl, u4, b4, l4⟩ := h1
    rw [show le (u32 a.fid) 4 ++ le (u32 a.newfid) 4 ++ le (u16 a.names.length) 2 ++ textsOf a.names = a.body from (body110 hk).symm] at b4
    simp only [go_sem]
    exact W_ret ⟨.inr rfl, _, rfl, RH.lev0 b4, _, rfl, uD.then u4 (fun _ _ h => h), b4⟩
  · have lk : lookupA Try.prog 147 (.map im) (.int .i64 a.ty) false ⟨H3, [] :: S⟩ = some (.fn (.func 134) [] [.ptr ⟨0, ic, 0⟩, .ptr ⟨0, ix, 0⟩]) := by
      rw [lookup1_kv ti147 rfl ti3 rfl ti146 (get0 hm), hk, askMap112]; rfl
    (repeat refine W_seq ?_); refine W_regionT [] ?_
    simp only [go_sem, ka0 (get0 hr3), kl0 (get0 hr3), lk]
    refine AT_call rfl rfl (clo134 (vf := vf) (ic := ic) hr3 hc3 b3 hn3 hd3 fit) fun v M1 hd1 h1 => ?_
    obtain ⟨G4, rfl, u4, b4, l4⟩ := h1
    rw [show le (u32 a.fid) 4 ++ le (u8 a.mode) 1 = a.body from (body112 hk).symm] at b4
    simp only [go_sem]
    exact W_ret ⟨.inr rfl, _, rfl, RH.lev0 b4, _, rfl, uD.then u4 (fun _ _ h => h), b4⟩
  · have lk : lookupA Try.prog 147 (.map im) (.int .i64 a.ty) false ⟨H3, [] :: S⟩ = some (.fn (.func 135) [] [.ptr ⟨0, ic, 0⟩, .ptr ⟨0, ix, 0⟩]) := by
      rw [lookup1_kv ti147 rfl ti3 rfl ti146 (get0 hm), hk, askMap114]; rfl
    (repeat refine W_seq ?_); refine W_regionT [] ?_
    simp only [go_sem, ka0 (get0 hr3), kl0 (get0 hr3), lk]
    refine AT_call rfl rfl (clo135 (vf := vf) (ic := ic) hr3 hc3 b3 hn3 hd3 fit) fun v M1 hd1 h1 => ?_
    obtain ⟨G4, rfl, u4, b4, l4⟩ := h1
    rw [show le (u32 a.fid) 4 ++ le a.name.length 2 ++ a.name ++ le (u32 a.perm) 4 ++ le (u8 a.mode) 1 = a.body from (body114 hk).symm] at b4
    simp only [go_sem]
    exact W_ret ⟨.inr rfl, _, rfl, RH.lev0 b4, _, rfl, uD.then u4 (fun _ _ h => h), b4⟩
  · have lk : lookupA Try.prog 147 (.map im) (.int .i64 a.ty) false ⟨H3, [] :: S⟩ = some (.fn (.func 136) [] [.ptr ⟨0, ic, 0⟩, .ptr ⟨0, ix, 0⟩]) := by
      rw [lookup1_kv ti147 rfl ti3 rfl ti146 (get0 hm), hk, askMap116]; rfl
    (repeat refine W_seq ?_); refine W_regionT [] ?_
    simp only [go_sem, ka0 (get0 hr3), kl0 (get0 hr3), lk]
    refine AT_call rfl rfl (clo136 (vf := vf) (ic := ic) hr3 hc3 b3 hn3 hd3 fit) fun v M1 hd1 h1 => ?_
    obtain ⟨G4, rfl, u4, b4, l4⟩ := h1
    rw [show le (u32 a.fid) 4 ++ le (u64 a.off) 8 ++ le (u32 a.count) 4 = a.body from (body116 hk).symm] at b4
    simp only [go_sem]
    exact W_ret ⟨.inr rfl, _, rfl, RH.lev0 b4, _, rfl, uD.then u4 (fun _ _ h => h), b4⟩
  · have lk : lookupA Try.prog 147 (.map im) (.int .i64 a.ty) false ⟨H3, [] :: S⟩ = some (.fn (.func 137) [] [.ptr ⟨0, ic, 0⟩, .ptr ⟨0, ix, 0⟩]) := by
      rw [lookup1_kv ti147 rfl ti3 rfl ti146 (get0 hm), hk, askMap118]; rfl
    (repeat refine W_seq ?_); refine W_regionT [] ?_
    simp only [go_sem, ka0 (get0 hr3), kl0 (get0 hr3), lk]
    refine AT_call rfl rfl (clo137 (vf := vf) (ic := ic) hr3 hc3 b3 hn3 hd3 fit) fun v M1 hd1 h1 => ?_
    obtain ⟨G4, rfl, u4, b4, l4⟩ := h1
    rw [show le (u32 a.fid) 4 ++ le (u64 a.off) 8 ++ le a.data.length 4 ++ a.data = a.body from (body118 hk).symm] at b4
    simp only [go_sem]
    exact W_ret ⟨.inr rfl, _, rfl, RH.lev0 b4, _, rfl, uD.then u4 (fun _ _ h => h), b4⟩
  · have lk : lookupA Try.prog 147 (.map im) (.int .i64 a.ty) false ⟨H3, [] :: S⟩ = some (.fn (.func 129) [] [.ptr ⟨0, ic, 0⟩]) := by
      rw [lookup1_kv ti147 rfl ti3 rfl ti146 (get0 hm), hk, askMap120]; rfl
    (repeat refine W_seq ?_); refine W_regionT [] ?_
    simp only [go_sem, ka0 (get0 hr3), kl0 (get0 hr3), lk]
    refine AT_call rfl rfl (alone129 hc3 b3) fun v M1 hd1 h1 => ?_
    obtain ⟨G4, rfl, u4, b4⟩ := h1
    rw [show le (u32 a.fid) 4 = a.body from (body120 hk).symm] at b4
    simp only [go_sem]
    exact W_ret ⟨.inr rfl, _, rfl, RH.lev0 b4, _, rfl, uD.then u4 (fun _ _ h => h), b4⟩
  · have lk : lookupA Try.prog 147 (.map im) (.int .i64 a.ty) false ⟨H3, [] :: S⟩ = some (.fn (.func 129) [] [.ptr ⟨0, ic, 0⟩]) := by
      rw [lookup1_kv ti147 rfl ti3 rfl ti146 (get0 hm), hk, askMap122]; rfl
    (repeat refine W_seq ?_); refine W_regionT [] ?_
    simp only [go_sem, ka0 (get0 hr3), kl0 (get0 hr3), lk]
    refine AT_call rfl rfl (alone129 hc3 b3) fun v M1 hd1 h1 => ?_
    obtain ⟨G4, rfl, u4, b4⟩ := h1
    rw [show le (u32 a.fid) 4 = a.body from (body122 hk).symm] at b4
    simp only [go_sem]
    exact W_ret ⟨.inr rfl, _, rfl, RH.lev0 b4, _, rfl, uD.then u4 (fun _ _ h => h), b4⟩
  · have lk : lookupA Try.prog 147 (.map im) (.int .i64 a.ty) false ⟨H3, [] :: S⟩ = some (.fn (.func 129) [] [.ptr ⟨0, ic, 0⟩]) := by
      rw [lookup1_kv ti147 rfl ti3 rfl ti146 (get0 hm), hk, askMap124]; rfl
    (repeat refine W_seq ?_); refine W_regionT [] ?_
    simp only [go_sem, ka0 (get0 hr3), kl0 (get0 hr3), lk]
    refine AT_call rfl rfl (alone129 hc3 b3) fun v M1 hd1 h1 => ?_
    obtain ⟨G4, rfl, u4, b4⟩ := h1
    rw [show le (u32 a.fid) 4 = a.body from (body124 hk).symm] at b4
    simp only [go_sem]
    exact W_ret ⟨.inr rfl, _, rfl, RH.lev0 b4, _, rfl, uD.then u4 (fun _ _ h => h), b4⟩
  · have lk : lookupA Try.prog 147 (.map im) (.int .i64 a.ty) false ⟨H3, [] :: S⟩ = some (.fn (.func 138) [] [.ptr ⟨0, ic, 0⟩, .ptr ⟨0, ix, 0⟩]) := by
      rw [lookup1_kv ti147 rfl ti3 rfl ti146 (get0 hm), hk, askMap126]; rfl
    (repeat refine W_seq ?_); refine W_regionT [] ?_
    simp only [go_sem, ka0 (get0 hr3), kl0 (get0 hr3), lk]
    refine AT_call rfl rfl (clo138 (vf := vf) (ic := ic) hr3 hc3 b3 hn3 hd3 fit) fun v M1 hd1 h1 => ?_
    obtain ⟨G4, rfl, u4, b4, l4⟩ := h1
    rw [show le (u32 a.fid) 4 ++ le (u32 a.size) 4 ++ le a.name.length 2 ++ a.name = a.body from (body126 hk).symm] at b4
    simp only [go_sem]
    exact W_ret ⟨.inr rfl, _, rfl, RH.lev0 b4, _, rfl, uD.then u4 (fun _ _ h => h), b4⟩
end
end Go.Proofs.Ytlpcbfndjffpfaa
