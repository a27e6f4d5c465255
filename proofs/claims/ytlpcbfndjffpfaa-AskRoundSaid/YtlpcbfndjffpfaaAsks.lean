/- Requests in memory; the walk of ask's in, Same, laid, May. -/
import Derived.Test.YtlpcbfndjffpfaaShared
set_option maxRecDepth 100000
set_option maxHeartbeats 4000000
set_option linter.unusedSimpArgs false
set_option linter.unusedVariables false
namespace Go.Proofs.Ytlpcbfndjffpfaa
open Go.Abs
structure AskR where
  ty : Int
  tag : Int
  fid : Int
  newfid : Int
  oldtag : Int
  msize : Int
  mode : Int
  perm : Int
  off : Int
  count : Int
  name : List UInt8
  names : List (List UInt8)
  size : Int
  data : List UInt8
  deriving DecidableEq
def AskR.cells (a : AskR) (vn vd : AV) : List AV := [.int .i64 a.ty, .int .i64 a.tag, .int .i64 a.fid, .int .i64 a.newfid, .int .i64 a.oldtag, .int .i64 a.msize, .int .i64 a.mode, .int .i64 a.perm, .int .i64 a.off, .int .i64 a.count, .str a.name, vn, .int .i64 a.size, vd]
/-- A list of texts. -/
def TH (H : List Block) (v : AV) (l : List (List UInt8)) : Prop := RH H v 1 (l.map AV.str) l.length
/-- A request. -/
def AskV (H : List Block) (x : AV) (a : AskR) : Prop := ∃ vn vd, x = .agg (a.cells vn vd) ∧ TH H vn a.names ∧ BH H vd a.data
def AskR.z : AskR := ⟨0, 0, 0, 0, 0, 0, 0, 0, 0, 0, [], [], 0, []⟩
section
variable {H : List Block} {S : List (List Block)} {F : List Block} {X Y B0 B1 B2 : Block}
end
section
variable {H : List Block} {S : List (List Block)} {F : List Block} {lv ix : Nat} {M' : Mem} {a : AskR} {vn vd : AV} {B0 B1 B2 : Block}
theorem ka0  (h : M'.get lv ix = some (Block.row ⟨72, 14, (AskR.cells a vn vd), false, false⟩)) : fieldAddrA Try.prog 72 (.ptr ⟨lv, ix, 0⟩) 0 M' = some (.ptr ⟨lv, ix, 0⟩) := field_addr (a := ⟨lv, ix, 0⟩) (r := ⟨72, 14, (AskR.cells a vn vd), false, false⟩) (off := 0) ti72 rfl rfl ti3 (by unfold getRow; simp only [h])
theorem ka0_0  : fieldAddrA Try.prog 72 (.ptr ⟨S.length + 1, 0, 0⟩) 0 ⟨H, (Block.row ⟨72, 14, (AskR.cells a vn vd), false, false⟩ :: F) :: S⟩ = some (.ptr ⟨S.length + 1, 0, 0⟩) := by
  have h := ka0 (a := a) (gt0 (H := H) (S := S) (F := F) (X := Block.row ⟨72, 14, (AskR.cells a vn vd), false, false⟩))
  exact h
theorem ka0_1  : fieldAddrA Try.prog 72 (.ptr ⟨S.length + 1, 1, 0⟩) 0 ⟨H, (B0 :: Block.row ⟨72, 14, (AskR.cells a vn vd), false, false⟩ :: F) :: S⟩ = some (.ptr ⟨S.length + 1, 1, 0⟩) := by
  have h := ka0 (a := a) (gt1 (H := H) (S := S) (F := F) (X := Block.row ⟨72, 14, (AskR.cells a vn vd), false, false⟩) (B0 := B0))
  exact h
theorem ka0_2  : fieldAddrA Try.prog 72 (.ptr ⟨S.length + 1, 2, 0⟩) 0 ⟨H, (B0 :: B1 :: Block.row ⟨72, 14, (AskR.cells a vn vd), false, false⟩ :: F) :: S⟩ = some (.ptr ⟨S.length + 1, 2, 0⟩) := by
  have h := ka0 (a := a) (gt2 (H := H) (S := S) (F := F) (X := Block.row ⟨72, 14, (AskR.cells a vn vd), false, false⟩) (B0 := B0) (B1 := B1))
  exact h
theorem ka1  (h : M'.get lv ix = some (Block.row ⟨72, 14, (AskR.cells a vn vd), false, false⟩)) : fieldAddrA Try.prog 72 (.ptr ⟨lv, ix, 0⟩) 1 M' = some (.ptr ⟨lv, ix, 1⟩) := field_addr (a := ⟨lv, ix, 0⟩) (r := ⟨72, 14, (AskR.cells a vn vd), false, false⟩) (off := 1) ti72 rfl rfl ti3 (by unfold getRow; simp only [h])
theorem ka1_0  : fieldAddrA Try.prog 72 (.ptr ⟨S.length + 1, 0, 0⟩) 1 ⟨H, (Block.row ⟨72, 14, (AskR.cells a vn vd), false, false⟩ :: F) :: S⟩ = some (.ptr ⟨S.length + 1, 0, 1⟩) := by
  have h := ka1 (a := a) (gt0 (H := H) (S := S) (F := F) (X := Block.row ⟨72, 14, (AskR.cells a vn vd), false, false⟩))
  exact h
theorem ka1_1  : fieldAddrA Try.prog 72 (.ptr ⟨S.length + 1, 1, 0⟩) 1 ⟨H, (B0 :: Block.row ⟨72, 14, (AskR.cells a vn vd), false, false⟩ :: F) :: S⟩ = some (.ptr ⟨S.length + 1, 1, 1⟩) := by
  have h := ka1 (a := a) (gt1 (H := H) (S := S) (F := F) (X := Block.row ⟨72, 14, (AskR.cells a vn vd), false, false⟩) (B0 := B0))
  exact h
theorem ka1_2  : fieldAddrA Try.prog 72 (.ptr ⟨S.length + 1, 2, 0⟩) 1 ⟨H, (B0 :: B1 :: Block.row ⟨72, 14, (AskR.cells a vn vd), false, false⟩ :: F) :: S⟩ = some (.ptr ⟨S.length + 1, 2, 1⟩) := by
  have h := ka1 (a := a) (gt2 (H := H) (S := S) (F := F) (X := Block.row ⟨72, 14, (AskR.cells a vn vd), false, false⟩) (B0 := B0) (B1 := B1))
  exact h
theorem ka2  (h : M'.get lv ix = some (Block.row ⟨72, 14, (AskR.cells a vn vd), false, false⟩)) : fieldAddrA Try.prog 72 (.ptr ⟨lv, ix, 0⟩) 2 M' = some (.ptr ⟨lv, ix, 2⟩) := field_addr (a := ⟨lv, ix, 0⟩) (r := ⟨72, 14, (AskR.cells a vn vd), false, false⟩) (off := 2) ti72 rfl rfl ti3 (by unfold getRow; simp only [h])
theorem ka2_0  : fieldAddrA Try.prog 72 (.ptr ⟨S.length + 1, 0, 0⟩) 2 ⟨H, (Block.row ⟨72, 14, (AskR.cells a vn vd), false, false⟩ :: F) :: S⟩ = some (.ptr ⟨S.length + 1, 0, 2⟩) := by
  have h := ka2 (a := a) (gt0 (H := H) (S := S) (F := F) (X := Block.row ⟨72, 14, (AskR.cells a vn vd), false, false⟩))
  exact h
theorem ka2_1  : fieldAddrA Try.prog 72 (.ptr ⟨S.length + 1, 1, 0⟩) 2 ⟨H, (B0 :: Block.row ⟨72, 14, (AskR.cells a vn vd), false, false⟩ :: F) :: S⟩ = some (.ptr ⟨S.length + 1, 1, 2⟩) := by
  have h := ka2 (a := a) (gt1 (H := H) (S := S) (F := F) (X := Block.row ⟨72, 14, (AskR.cells a vn vd), false, false⟩) (B0 := B0))
  exact h
theorem ka2_2  : fieldAddrA Try.prog 72 (.ptr ⟨S.length + 1, 2, 0⟩) 2 ⟨H, (B0 :: B1 :: Block.row ⟨72, 14, (AskR.cells a vn vd), false, false⟩ :: F) :: S⟩ = some (.ptr ⟨S.length + 1, 2, 2⟩) := by
  have h := ka2 (a := a) (gt2 (H := H) (S := S) (F := F) (X := Block.row ⟨72, 14, (AskR.cells a vn vd), false, false⟩) (B0 := B0) (B1 := B1))
  exact h
theorem ka3  (h : M'.get lv ix = some (Block.row ⟨72, 14, (AskR.cells a vn vd), false, false⟩)) : fieldAddrA Try.prog 72 (.ptr ⟨lv, ix, 0⟩) 3 M' = some (.ptr ⟨lv, ix, 3⟩) := field_addr (a := ⟨lv, ix, 0⟩) (r := ⟨72, 14, (AskR.cells a vn vd), false, false⟩) (off := 3) ti72 rfl rfl ti3 (by unfold getRow; simp only [h])
theorem ka3_0  : fieldAddrA Try.prog 72 (.ptr ⟨S.length + 1, 0, 0⟩) 3 ⟨H, (Block.row ⟨72, 14, (AskR.cells a vn vd), false, false⟩ :: F) :: S⟩ = some (.ptr ⟨S.length + 1, 0, 3⟩) := by
  have h := ka3 (a := a) (gt0 (H := H) (S := S) (F := F) (X := Block.row ⟨72, 14, (AskR.cells a vn vd), false, false⟩))
  exact h
theorem ka3_1  : fieldAddrA Try.prog 72 (.ptr ⟨S.length + 1, 1, 0⟩) 3 ⟨H, (B0 :: Block.row ⟨72, 14, (AskR.cells a vn vd), false, false⟩ :: F) :: S⟩ = some (.ptr ⟨S.length + 1, 1, 3⟩) := by
  have h := ka3 (a := a) (gt1 (H := H) (S := S) (F := F) (X := Block.row ⟨72, 14, (AskR.cells a vn vd), false, false⟩) (B0 := B0))
  exact h
theorem ka3_2  : fieldAddrA Try.prog 72 (.ptr ⟨S.length + 1, 2, 0⟩) 3 ⟨H, (B0 :: B1 :: Block.row ⟨72, 14, (AskR.cells a vn vd), false, false⟩ :: F) :: S⟩ = some (.ptr ⟨S.length + 1, 2, 3⟩) := by
  have h := ka3 (a := a) (gt2 (H := H) (S := S) (F := F) (X := Block.row ⟨72, 14, (AskR.cells a vn vd), false, false⟩) (B0 := B0) (B1 := B1))
  exact h
theorem ka4  (h : M'.get lv ix = some (Block.row ⟨72, 14, (AskR.cells a vn vd), false, false⟩)) : fieldAddrA Try.prog 72 (.ptr ⟨lv, ix, 0⟩) 4 M' = some (.ptr ⟨lv, ix, 4⟩) := field_addr (a := ⟨lv, ix, 0⟩) (r := ⟨72, 14, (AskR.cells a vn vd), false, false⟩) (off := 4) ti72 rfl rfl ti3 (by unfold getRow; simp only [h])
theorem ka4_0  : fieldAddrA Try.prog 72 (.ptr ⟨S.length + 1, 0, 0⟩) 4 ⟨H, (Block.row ⟨72, 14, (AskR.cells a vn vd), false, false⟩ :: F) :: S⟩ = some (.ptr ⟨S.length + 1, 0, 4⟩) := by
  have h := ka4 (a := a) (gt0 (H := H) (S := S) (F := F) (X := Block.row ⟨72, 14, (AskR.cells a vn vd), false, false⟩))
  exact h
theorem ka4_1  : fieldAddrA Try.prog 72 (.ptr ⟨S.length + 1, 1, 0⟩) 4 ⟨H, (B0 :: Block.row ⟨72, 14, (AskR.cells a vn vd), false, false⟩ :: F) :: S⟩ = some (.ptr ⟨S.length + 1, 1, 4⟩) := by
  have h := ka4 (a := a) (gt1 (H := H) (S := S) (F := F) (X := Block.row ⟨72, 14, (AskR.cells a vn vd), false, false⟩) (B0 := B0))
  exact h
theorem ka4_2  : fieldAddrA Try.prog 72 (.ptr ⟨S.length + 1, 2, 0⟩) 4 ⟨H, (B0 :: B1 :: Block.row ⟨72, 14, (AskR.cells a vn vd), false, false⟩ :: F) :: S⟩ = some (.ptr ⟨S.length + 1, 2, 4⟩) := by
  have h := ka4 (a := a) (gt2 (H := H) (S := S) (F := F) (X := Block.row ⟨72, 14, (AskR.cells a vn vd), false, false⟩) (B0 := B0) (B1 := B1))
  exact h
theorem ka5  (h : M'.get lv ix = some (Block.row ⟨72, 14, (AskR.cells a vn vd), false, false⟩)) : fieldAddrA Try.prog 72 (.ptr ⟨lv, ix, 0⟩) 5 M' = some (.ptr ⟨lv, ix, 5⟩) := field_addr (a := ⟨lv, ix, 0⟩) (r := ⟨72, 14, (AskR.cells a vn vd), false, false⟩) (off := 5) ti72 rfl rfl ti3 (by unfold getRow; simp only [h])
theorem ka5_0  : fieldAddrA Try.prog 72 (.ptr ⟨S.length + 1, 0, 0⟩) 5 ⟨H, (Block.row ⟨72, 14, (AskR.cells a vn vd), false, false⟩ :: F) :: S⟩ = some (.ptr ⟨S.length + 1, 0, 5⟩) := by
  have h := ka5 (a := a) (gt0 (H := H) (S := S) (F := F) (X := Block.row ⟨72, 14, (AskR.cells a vn vd), false, false⟩))
  exact h
theorem ka5_1  : fieldAddrA Try.prog 72 (.ptr ⟨S.length + 1, 1, 0⟩) 5 ⟨H, (B0 :: Block.row ⟨72, 14, (AskR.cells a vn vd), false, false⟩ :: F) :: S⟩ = some (.ptr ⟨S.length + 1, 1, 5⟩) := by
  have h := ka5 (a := a) (gt1 (H := H) (S := S) (F := F) (X := Block.row ⟨72, 14, (AskR.cells a vn vd), false, false⟩) (B0 := B0))
  exact h
theorem ka5_2  : fieldAddrA Try.prog 72 (.ptr ⟨S.length + 1, 2, 0⟩) 5 ⟨H, (B0 :: B1 :: Block.row ⟨72, 14, (AskR.cells a vn vd), false, false⟩ :: F) :: S⟩ = some (.ptr ⟨S.length + 1, 2, 5⟩) := by
  have h := ka5 (a := a) (gt2 (H := H) (S := S) (F := F) (X := Block.row ⟨72, 14, (AskR.cells a vn vd), false, false⟩) (B0 := B0) (B1 := B1))
  exact h
theorem ka6  (h : M'.get lv ix = some (Block.row ⟨72, 14, (AskR.cells a vn vd), false, false⟩)) : fieldAddrA Try.prog 72 (.ptr ⟨lv, ix, 0⟩) 6 M' = some (.ptr ⟨lv, ix, 6⟩) := field_addr (a := ⟨lv, ix, 0⟩) (r := ⟨72, 14, (AskR.cells a vn vd), false, false⟩) (off := 6) ti72 rfl rfl ti3 (by unfold getRow; simp only [h])
theorem ka6_0  : fieldAddrA Try.prog 72 (.ptr ⟨S.length + 1, 0, 0⟩) 6 ⟨H, (Block.row ⟨72, 14, (AskR.cells a vn vd), false, false⟩ :: F) :: S⟩ = some (.ptr ⟨S.length + 1, 0, 6⟩) := by
  have h := ka6 (a := a) (gt0 (H := H) (S := S) (F := F) (X := Block.row ⟨72, 14, (AskR.cells a vn vd), false, false⟩))
  exact h
theorem ka6_1  : fieldAddrA Try.prog 72 (.ptr ⟨S.length + 1, 1, 0⟩) 6 ⟨H, (B0 :: Block.row ⟨72, 14, (AskR.cells a vn vd), false, false⟩ :: F) :: S⟩ = some (.ptr ⟨S.length + 1, 1, 6⟩) := by
  have h := ka6 (a := a) (gt1 (H := H) (S := S) (F := F) (X := Block.row ⟨72, 14, (AskR.cells a vn vd), false, false⟩) (B0 := B0))
  exact h
theorem ka6_2  : fieldAddrA Try.prog 72 (.ptr ⟨S.length + 1, 2, 0⟩) 6 ⟨H, (B0 :: B1 :: Block.row ⟨72, 14, (AskR.cells a vn vd), false, false⟩ :: F) :: S⟩ = some (.ptr ⟨S.length + 1, 2, 6⟩) := by
  have h := ka6 (a := a) (gt2 (H := H) (S := S) (F := F) (X := Block.row ⟨72, 14, (AskR.cells a vn vd), false, false⟩) (B0 := B0) (B1 := B1))
  exact h
theorem ka7  (h : M'.get lv ix = some (Block.row ⟨72, 14, (AskR.cells a vn vd), false, false⟩)) : fieldAddrA Try.prog 72 (.ptr ⟨lv, ix, 0⟩) 7 M' = some (.ptr ⟨lv, ix, 7⟩) := field_addr (a := ⟨lv, ix, 0⟩) (r := ⟨72, 14, (AskR.cells a vn vd), false, false⟩) (off := 7) ti72 rfl rfl ti3 (by unfold getRow; simp only [h])
theorem ka7_0  : fieldAddrA Try.prog 72 (.ptr ⟨S.length + 1, 0, 0⟩) 7 ⟨H, (Block.row ⟨72, 14, (AskR.cells a vn vd), false, false⟩ :: F) :: S⟩ = some (.ptr ⟨S.length + 1, 0, 7⟩) := by
  have h := ka7 (a := a) (gt0 (H := H) (S := S) (F := F) (X := Block.row ⟨72, 14, (AskR.cells a vn vd), false, false⟩))
  exact h
theorem ka7_1  : fieldAddrA Try.prog 72 (.ptr ⟨S.length + 1, 1, 0⟩) 7 ⟨H, (B0 :: Block.row ⟨72, 14, (AskR.cells a vn vd), false, false⟩ :: F) :: S⟩ = some (.ptr ⟨S.length + 1, 1, 7⟩) := by
  have h := ka7 (a := a) (gt1 (H := H) (S := S) (F := F) (X := Block.row ⟨72, 14, (AskR.cells a vn vd), false, false⟩) (B0 := B0))
  exact h
theorem ka7_2  : fieldAddrA Try.prog 72 (.ptr ⟨S.length + 1, 2, 0⟩) 7 ⟨H, (B0 :: B1 :: Block.row ⟨72, 14, (AskR.cells a vn vd), false, false⟩ :: F) :: S⟩ = some (.ptr ⟨S.length + 1, 2, 7⟩) := by
  have h := ka7 (a := a) (gt2 (H := H) (S := S) (F := F) (X := Block.row ⟨72, 14, (AskR.cells a vn vd), false, false⟩) (B0 := B0) (B1 := B1))
  exact h
theorem ka8  (h : M'.get lv ix = some (Block.row ⟨72, 14, (AskR.cells a vn vd), false, false⟩)) : fieldAddrA Try.prog 72 (.ptr ⟨lv, ix, 0⟩) 8 M' = some (.ptr ⟨lv, ix, 8⟩) := field_addr (a := ⟨lv, ix, 0⟩) (r := ⟨72, 14, (AskR.cells a vn vd), false, false⟩) (off := 8) ti72 rfl rfl ti3 (by unfold getRow; simp only [h])
theorem ka8_0  : fieldAddrA Try.prog 72 (.ptr ⟨S.length + 1, 0, 0⟩) 8 ⟨H, (Block.row ⟨72, 14, (AskR.cells a vn vd), false, false⟩ :: F) :: S⟩ = some (.ptr ⟨S.length + 1, 0, 8⟩) := by
  have h := ka8 (a := a) (gt0 (H := H) (S := S) (F := F) (X := Block.row ⟨72, 14, (AskR.cells a vn vd), false, false⟩))
  exact h
theorem ka8_1  : fieldAddrA Try.prog 72 (.ptr ⟨S.length + 1, 1, 0⟩) 8 ⟨H, (B0 :: Block.row ⟨72, 14, (AskR.cells a vn vd), false, false⟩ :: F) :: S⟩ = some (.ptr ⟨S.length + 1, 1, 8⟩) := by
  have h := ka8 (a := a) (gt1 (H := H) (S := S) (F := F) (X := Block.row ⟨72, 14, (AskR.cells a vn vd), false, false⟩) (B0 := B0))
  exact h
theorem ka8_2  : fieldAddrA Try.prog 72 (.ptr ⟨S.length + 1, 2, 0⟩) 8 ⟨H, (B0 :: B1 :: Block.row ⟨72, 14, (AskR.cells a vn vd), false, false⟩ :: F) :: S⟩ = some (.ptr ⟨S.length + 1, 2, 8⟩) := by
  have h := ka8 (a := a) (gt2 (H := H) (S := S) (F := F) (X := Block.row ⟨72, 14, (AskR.cells a vn vd), false, false⟩) (B0 := B0) (B1 := B1))
  exact h
theorem ka9  (h : M'.get lv ix = some (Block.row ⟨72, 14, (AskR.cells a vn vd), false, false⟩)) : fieldAddrA Try.prog 72 (.ptr ⟨lv, ix, 0⟩) 9 M' = some (.ptr ⟨lv, ix, 9⟩) := field_addr (a := ⟨lv, ix, 0⟩) (r := ⟨72, 14, (AskR.cells a vn vd), false, false⟩) (off := 9) ti72 rfl rfl ti3 (by unfold getRow; simp only [h])
theorem ka9_0  : fieldAddrA Try.prog 72 (.ptr ⟨S.length + 1, 0, 0⟩) 9 ⟨H, (Block.row ⟨72, 14, (AskR.cells a vn vd), false, false⟩ :: F) :: S⟩ = some (.ptr ⟨S.length + 1, 0, 9⟩) := by
  have h := ka9 (a := a) (gt0 (H := H) (S := S) (F := F) (X := Block.row ⟨72, 14, (AskR.cells a vn vd), false, false⟩))
  exact h
theorem ka9_1  : fieldAddrA Try.prog 72 (.ptr ⟨S.length + 1, 1, 0⟩) 9 ⟨H, (B0 :: Block.row ⟨72, 14, (AskR.cells a vn vd), false, false⟩ :: F) :: S⟩ = some (.ptr ⟨S.length + 1, 1, 9⟩) := by
  have h := ka9 (a := a) (gt1 (H := H) (S := S) (F := F) (X := Block.row ⟨72, 14, (AskR.cells a vn vd), false, false⟩) (B0 := B0))
  exact h
theorem ka9_2  : fieldAddrA Try.prog 72 (.ptr ⟨S.length + 1, 2, 0⟩) 9 ⟨H, (B0 :: B1 :: Block.row ⟨72, 14, (AskR.cells a vn vd), false, false⟩ :: F) :: S⟩ = some (.ptr ⟨S.length + 1, 2, 9⟩) := by
  have h := ka9 (a := a) (gt2 (H := H) (S := S) (F := F) (X := Block.row ⟨72, 14, (AskR.cells a vn vd), false, false⟩) (B0 := B0) (B1 := B1))
  exact h
theorem ka10  (h : M'.get lv ix = some (Block.row ⟨72, 14, (AskR.cells a vn vd), false, false⟩)) : fieldAddrA Try.prog 72 (.ptr ⟨lv, ix, 0⟩) 10 M' = some (.ptr ⟨lv, ix, 10⟩) := field_addr (a := ⟨lv, ix, 0⟩) (r := ⟨72, 14, (AskR.cells a vn vd), false, false⟩) (off := 10) ti72 rfl rfl ti9 (by unfold getRow; simp only [h])
theorem ka10_0  : fieldAddrA Try.prog 72 (.ptr ⟨S.length + 1, 0, 0⟩) 10 ⟨H, (Block.row ⟨72, 14, (AskR.cells a vn vd), false, false⟩ :: F) :: S⟩ = some (.ptr ⟨S.length + 1, 0, 10⟩) := by
  have h := ka10 (a := a) (gt0 (H := H) (S := S) (F := F) (X := Block.row ⟨72, 14, (AskR.cells a vn vd), false, false⟩))
  exact h
theorem ka10_1  : fieldAddrA Try.prog 72 (.ptr ⟨S.length + 1, 1, 0⟩) 10 ⟨H, (B0 :: Block.row ⟨72, 14, (AskR.cells a vn vd), false, false⟩ :: F) :: S⟩ = some (.ptr ⟨S.length + 1, 1, 10⟩) := by
  have h := ka10 (a := a) (gt1 (H := H) (S := S) (F := F) (X := Block.row ⟨72, 14, (AskR.cells a vn vd), false, false⟩) (B0 := B0))
  exact h
theorem ka10_2  : fieldAddrA Try.prog 72 (.ptr ⟨S.length + 1, 2, 0⟩) 10 ⟨H, (B0 :: B1 :: Block.row ⟨72, 14, (AskR.cells a vn vd), false, false⟩ :: F) :: S⟩ = some (.ptr ⟨S.length + 1, 2, 10⟩) := by
  have h := ka10 (a := a) (gt2 (H := H) (S := S) (F := F) (X := Block.row ⟨72, 14, (AskR.cells a vn vd), false, false⟩) (B0 := B0) (B1 := B1))
  exact h
theorem ka11  (h : M'.get lv ix = some (Block.row ⟨72, 14, (AskR.cells a vn vd), false, false⟩)) : fieldAddrA Try.prog 72 (.ptr ⟨lv, ix, 0⟩) 11 M' = some (.ptr ⟨lv, ix, 11⟩) := field_addr (a := ⟨lv, ix, 0⟩) (r := ⟨72, 14, (AskR.cells a vn vd), false, false⟩) (off := 11) ti72 rfl rfl ti70 (by unfold getRow; simp only [h])
theorem ka11_0  : fieldAddrA Try.prog 72 (.ptr ⟨S.length + 1, 0, 0⟩) 11 ⟨H, (Block.row ⟨72, 14, (AskR.cells a vn vd), false, false⟩ :: F) :: S⟩ = some (.ptr ⟨S.length + 1, 0, 11⟩) := by
  have h := ka11 (a := a) (gt0 (H := H) (S := S) (F := F) (X := Block.row ⟨72, 14, (AskR.cells a vn vd), false, false⟩))
  exact h
theorem ka11_1  : fieldAddrA Try.prog 72 (.ptr ⟨S.length + 1, 1, 0⟩) 11 ⟨H, (B0 :: Block.row ⟨72, 14, (AskR.cells a vn vd), false, false⟩ :: F) :: S⟩ = some (.ptr ⟨S.length + 1, 1, 11⟩) := by
  have h := ka11 (a := a) (gt1 (H := H) (S := S) (F := F) (X := Block.row ⟨72, 14, (AskR.cells a vn vd), false, false⟩) (B0 := B0))
  exact h
theorem ka11_2  : fieldAddrA Try.prog 72 (.ptr ⟨S.length + 1, 2, 0⟩) 11 ⟨H, (B0 :: B1 :: Block.row ⟨72, 14, (AskR.cells a vn vd), false, false⟩ :: F) :: S⟩ = some (.ptr ⟨S.length + 1, 2, 11⟩) := by
  have h := ka11 (a := a) (gt2 (H := H) (S := S) (F := F) (X := Block.row ⟨72, 14, (AskR.cells a vn vd), false, false⟩) (B0 := B0) (B1 := B1))
  exact h
theorem ka12  (h : M'.get lv ix = some (Block.row ⟨72, 14, (AskR.cells a vn vd), false, false⟩)) : fieldAddrA Try.prog 72 (.ptr ⟨lv, ix, 0⟩) 12 M' = some (.ptr ⟨lv, ix, 12⟩) := field_addr (a := ⟨lv, ix, 0⟩) (r := ⟨72, 14, (AskR.cells a vn vd), false, false⟩) (off := 12) ti72 rfl rfl ti3 (by unfold getRow; simp only [h])
theorem ka12_0  : fieldAddrA Try.prog 72 (.ptr ⟨S.length + 1, 0, 0⟩) 12 ⟨H, (Block.row ⟨72, 14, (AskR.cells a vn vd), false, false⟩ :: F) :: S⟩ = some (.ptr ⟨S.length + 1, 0, 12⟩) := by
  have h := ka12 (a := a) (gt0 (H := H) (S := S) (F := F) (X := Block.row ⟨72, 14, (AskR.cells a vn vd), false, false⟩))
  exact h
theorem ka12_1  : fieldAddrA Try.prog 72 (.ptr ⟨S.length + 1, 1, 0⟩) 12 ⟨H, (B0 :: Block.row ⟨72, 14, (AskR.cells a vn vd), false, false⟩ :: F) :: S⟩ = some (.ptr ⟨S.length + 1, 1, 12⟩) := by
  have h := ka12 (a := a) (gt1 (H := H) (S := S) (F := F) (X := Block.row ⟨72, 14, (AskR.cells a vn vd), false, false⟩) (B0 := B0))
  exact h
theorem ka12_2  : fieldAddrA Try.prog 72 (.ptr ⟨S.length + 1, 2, 0⟩) 12 ⟨H, (B0 :: B1 :: Block.row ⟨72, 14, (AskR.cells a vn vd), false, false⟩ :: F) :: S⟩ = some (.ptr ⟨S.length + 1, 2, 12⟩) := by
  have h := ka12 (a := a) (gt2 (H := H) (S := S) (F := F) (X := Block.row ⟨72, 14, (AskR.cells a vn vd), false, false⟩) (B0 := B0) (B1 := B1))
  exact h
theorem ka13  (h : M'.get lv ix = some (Block.row ⟨72, 14, (AskR.cells a vn vd), false, false⟩)) : fieldAddrA Try.prog 72 (.ptr ⟨lv, ix, 0⟩) 13 M' = some (.ptr ⟨lv, ix, 13⟩) := field_addr (a := ⟨lv, ix, 0⟩) (r := ⟨72, 14, (AskR.cells a vn vd), false, false⟩) (off := 13) ti72 rfl rfl ti22 (by unfold getRow; simp only [h])
theorem ka13_0  : fieldAddrA Try.prog 72 (.ptr ⟨S.length + 1, 0, 0⟩) 13 ⟨H, (Block.row ⟨72, 14, (AskR.cells a vn vd), false, false⟩ :: F) :: S⟩ = some (.ptr ⟨S.length + 1, 0, 13⟩) := by
  have h := ka13 (a := a) (gt0 (H := H) (S := S) (F := F) (X := Block.row ⟨72, 14, (AskR.cells a vn vd), false, false⟩))
  exact h
theorem ka13_1  : fieldAddrA Try.prog 72 (.ptr ⟨S.length + 1, 1, 0⟩) 13 ⟨H, (B0 :: Block.row ⟨72, 14, (AskR.cells a vn vd), false, false⟩ :: F) :: S⟩ = some (.ptr ⟨S.length + 1, 1, 13⟩) := by
  have h := ka13 (a := a) (gt1 (H := H) (S := S) (F := F) (X := Block.row ⟨72, 14, (AskR.cells a vn vd), false, false⟩) (B0 := B0))
  exact h
theorem ka13_2  : fieldAddrA Try.prog 72 (.ptr ⟨S.length + 1, 2, 0⟩) 13 ⟨H, (B0 :: B1 :: Block.row ⟨72, 14, (AskR.cells a vn vd), false, false⟩ :: F) :: S⟩ = some (.ptr ⟨S.length + 1, 2, 13⟩) := by
  have h := ka13 (a := a) (gt2 (H := H) (S := S) (F := F) (X := Block.row ⟨72, 14, (AskR.cells a vn vd), false, false⟩) (B0 := B0) (B1 := B1))
  exact h
theorem kl0  (h : M'.get lv ix = some (Block.row ⟨72, 14, (AskR.cells a vn vd), false, false⟩)) : loadA Try.prog 3 (.ptr ⟨lv, ix, 0⟩) M' = some (.int .i64 a.ty) := by
  rw [load_one (a := ⟨lv, ix, 0⟩) (r := ⟨72, 14, (AskR.cells a vn vd), false, false⟩) ti3 rfl (by unfold getRow; simp only [h])]; rfl
theorem kl0_0  : loadA Try.prog 3 (.ptr ⟨S.length + 1, 0, 0⟩) ⟨H, (Block.row ⟨72, 14, (AskR.cells a vn vd), false, false⟩ :: F) :: S⟩ = some (.int .i64 a.ty) := by
  have h := kl0 (a := a) (gt0 (H := H) (S := S) (F := F) (X := Block.row ⟨72, 14, (AskR.cells a vn vd), false, false⟩))
  exact h
theorem kl0_1  : loadA Try.prog 3 (.ptr ⟨S.length + 1, 1, 0⟩) ⟨H, (B0 :: Block.row ⟨72, 14, (AskR.cells a vn vd), false, false⟩ :: F) :: S⟩ = some (.int .i64 a.ty) := by
  have h := kl0 (a := a) (gt1 (H := H) (S := S) (F := F) (X := Block.row ⟨72, 14, (AskR.cells a vn vd), false, false⟩) (B0 := B0))
  exact h
theorem kl0_2  : loadA Try.prog 3 (.ptr ⟨S.length + 1, 2, 0⟩) ⟨H, (B0 :: B1 :: Block.row ⟨72, 14, (AskR.cells a vn vd), false, false⟩ :: F) :: S⟩ = some (.int .i64 a.ty) := by
  have h := kl0 (a := a) (gt2 (H := H) (S := S) (F := F) (X := Block.row ⟨72, 14, (AskR.cells a vn vd), false, false⟩) (B0 := B0) (B1 := B1))
  exact h
theorem ks0 {n : Int} (h : M'.get lv ix = some (Block.row ⟨72, 14, (AskR.cells a vn vd), false, false⟩)) : stores Try.prog 3 (.ptr ⟨lv, ix, 0⟩) (.int .i64 n) M' = some (.undef, M'.set lv ix (Block.row ⟨72, 14, (AskR.cells {a with ty := n} vn vd), false, false⟩)) := by
  rw [store_cell (a := ⟨lv, ix, 0⟩) (r := ⟨72, 14, (AskR.cells a vn vd), false, false⟩) ti3 (by unfold getRow; simp only [h]) rfl rfl rfl (show 0 % 14 + 1 ≤ 14 by decide) rfl rfl]; rfl
theorem ks0_0 {n : Int} : stores Try.prog 3 (.ptr ⟨S.length + 1, 0, 0⟩) (.int .i64 n) ⟨H, (Block.row ⟨72, 14, (AskR.cells a vn vd), false, false⟩ :: F) :: S⟩ = some (.undef, ⟨H, (Block.row ⟨72, 14, (AskR.cells {a with ty := n} vn vd), false, false⟩ :: F) :: S⟩) := by
  have h := ks0 (a := a) (n := n) (gt0 (H := H) (S := S) (F := F) (X := Block.row ⟨72, 14, (AskR.cells a vn vd), false, false⟩))
  rw [sg0] at h; exact h
theorem ks0_1 {n : Int} : stores Try.prog 3 (.ptr ⟨S.length + 1, 1, 0⟩) (.int .i64 n) ⟨H, (B0 :: Block.row ⟨72, 14, (AskR.cells a vn vd), false, false⟩ :: F) :: S⟩ = some (.undef, ⟨H, (B0 :: Block.row ⟨72, 14, (AskR.cells {a with ty := n} vn vd), false, false⟩ :: F) :: S⟩) := by
  have h := ks0 (a := a) (n := n) (gt1 (H := H) (S := S) (F := F) (X := Block.row ⟨72, 14, (AskR.cells a vn vd), false, false⟩) (B0 := B0))
  rw [sg1] at h; exact h
theorem ks0_2 {n : Int} : stores Try.prog 3 (.ptr ⟨S.length + 1, 2, 0⟩) (.int .i64 n) ⟨H, (B0 :: B1 :: Block.row ⟨72, 14, (AskR.cells a vn vd), false, false⟩ :: F) :: S⟩ = some (.undef, ⟨H, (B0 :: B1 :: Block.row ⟨72, 14, (AskR.cells {a with ty := n} vn vd), false, false⟩ :: F) :: S⟩) := by
  have h := ks0 (a := a) (n := n) (gt2 (H := H) (S := S) (F := F) (X := Block.row ⟨72, 14, (AskR.cells a vn vd), false, false⟩) (B0 := B0) (B1 := B1))
  rw [sg2] at h; exact h
theorem kl1  (h : M'.get lv ix = some (Block.row ⟨72, 14, (AskR.cells a vn vd), false, false⟩)) : loadA Try.prog 3 (.ptr ⟨lv, ix, 1⟩) M' = some (.int .i64 a.tag) := by
  rw [load_one (a := ⟨lv, ix, 1⟩) (r := ⟨72, 14, (AskR.cells a vn vd), false, false⟩) ti3 rfl (by unfold getRow; simp only [h])]; rfl
theorem kl1_0  : loadA Try.prog 3 (.ptr ⟨S.length + 1, 0, 1⟩) ⟨H, (Block.row ⟨72, 14, (AskR.cells a vn vd), false, false⟩ :: F) :: S⟩ = some (.int .i64 a.tag) := by
  have h := kl1 (a := a) (gt0 (H := H) (S := S) (F := F) (X := Block.row ⟨72, 14, (AskR.cells a vn vd), false, false⟩))
  exact h
theorem kl1_1  : loadA Try.prog 3 (.ptr ⟨S.length + 1, 1, 1⟩) ⟨H, (B0 :: Block.row ⟨72, 14, (AskR.cells a vn vd), false, false⟩ :: F) :: S⟩ = some (.int .i64 a.tag) := by
  have h := kl1 (a := a) (gt1 (H := H) (S := S) (F := F) (X := Block.row ⟨72, 14, (AskR.cells a vn vd), false, false⟩) (B0 := B0))
  exact h
theorem kl1_2  : loadA Try.prog 3 (.ptr ⟨S.length + 1, 2, 1⟩) ⟨H, (B0 :: B1 :: Block.row ⟨72, 14, (AskR.cells a vn vd), false, false⟩ :: F) :: S⟩ = some (.int .i64 a.tag) := by
  have h := kl1 (a := a) (gt2 (H := H) (S := S) (F := F) (X := Block.row ⟨72, 14, (AskR.cells a vn vd), false, false⟩) (B0 := B0) (B1 := B1))
  exact h
theorem ks1 {n : Int} (h : M'.get lv ix = some (Block.row ⟨72, 14, (AskR.cells a vn vd), false, false⟩)) : stores Try.prog 3 (.ptr ⟨lv, ix, 1⟩) (.int .i64 n) M' = some (.undef, M'.set lv ix (Block.row ⟨72, 14, (AskR.cells {a with tag := n} vn vd), false, false⟩)) := by
  rw [store_cell (a := ⟨lv, ix, 1⟩) (r := ⟨72, 14, (AskR.cells a vn vd), false, false⟩) ti3 (by unfold getRow; simp only [h]) rfl rfl rfl (show 1 % 14 + 1 ≤ 14 by decide) rfl rfl]; rfl
theorem ks1_0 {n : Int} : stores Try.prog 3 (.ptr ⟨S.length + 1, 0, 1⟩) (.int .i64 n) ⟨H, (Block.row ⟨72, 14, (AskR.cells a vn vd), false, false⟩ :: F) :: S⟩ = some (.undef, ⟨H, (Block.row ⟨72, 14, (AskR.cells {a with tag := n} vn vd), false, false⟩ :: F) :: S⟩) := by
  have h := ks1 (a := a) (n := n) (gt0 (H := H) (S := S) (F := F) (X := Block.row ⟨72, 14, (AskR.cells a vn vd), false, false⟩))
  rw [sg0] at h; exact h
theorem ks1_1 {n : Int} : stores Try.prog 3 (.ptr ⟨S.length + 1, 1, 1⟩) (.int .i64 n) ⟨H, (B0 :: Block.row ⟨72, 14, (AskR.cells a vn vd), false, false⟩ :: F) :: S⟩ = some (.undef, ⟨H, (B0 :: Block.row ⟨72, 14, (AskR.cells {a with tag := n} vn vd), false, false⟩ :: F) :: S⟩) := by
  have h := ks1 (a := a) (n := n) (gt1 (H := H) (S := S) (F := F) (X := Block.row ⟨72, 14, (AskR.cells a vn vd), false, false⟩) (B0 := B0))
  rw [sg1] at h; exact h
theorem ks1_2 {n : Int} : stores Try.prog 3 (.ptr ⟨S.length + 1, 2, 1⟩) (.int .i64 n) ⟨H, (B0 :: B1 :: Block.row ⟨72, 14, (AskR.cells a vn vd), false, false⟩ :: F) :: S⟩ = some (.undef, ⟨H, (B0 :: B1 :: Block.row ⟨72, 14, (AskR.cells {a with tag := n} vn vd), false, false⟩ :: F) :: S⟩) := by
  have h := ks1 (a := a) (n := n) (gt2 (H := H) (S := S) (F := F) (X := Block.row ⟨72, 14, (AskR.cells a vn vd), false, false⟩) (B0 := B0) (B1 := B1))
  rw [sg2] at h; exact h
theorem kl2  (h : M'.get lv ix = some (Block.row ⟨72, 14, (AskR.cells a vn vd), false, false⟩)) : loadA Try.prog 3 (.ptr ⟨lv, ix, 2⟩) M' = some (.int .i64 a.fid) := by
  rw [load_one (a := ⟨lv, ix, 2⟩) (r := ⟨72, 14, (AskR.cells a vn vd), false, false⟩) ti3 rfl (by unfold getRow; simp only [h])]; rfl
theorem kl2_0  : loadA Try.prog 3 (.ptr ⟨S.length + 1, 0, 2⟩) ⟨H, (Block.row ⟨72, 14, (AskR.cells a vn vd), false, false⟩ :: F) :: S⟩ = some (.int .i64 a.fid) := by
  have h := kl2 (a := a) (gt0 (H := H) (S := S) (F := F) (X := Block.row ⟨72, 14, (AskR.cells a vn vd), false, false⟩))
  exact h
theorem kl2_1  : loadA Try.prog 3 (.ptr ⟨S.length + 1, 1, 2⟩) ⟨H, (B0 :: Block.row ⟨72, 14, (AskR.cells a vn vd), false, false⟩ :: F) :: S⟩ = some (.int .i64 a.fid) := by
  have h := kl2 (a := a) (gt1 (H := H) (S := S) (F := F) (X := Block.row ⟨72, 14, (AskR.cells a vn vd), false, false⟩) (B0 := B0))
  exact h
theorem kl2_2  : loadA Try.prog 3 (.ptr ⟨S.length + 1, 2, 2⟩) ⟨H, (B0 :: B1 :: Block.row ⟨72, 14, (AskR.cells a vn vd), false, false⟩ :: F) :: S⟩ = some (.int .i64 a.fid) := by
  have h := kl2 (a := a) (gt2 (H := H) (S := S) (F := F) (X := Block.row ⟨72, 14, (AskR.cells a vn vd), false, false⟩) (B0 := B0) (B1 := B1))
  exact h
theorem ks2 {n : Int} (h : M'.get lv ix = some (Block.row ⟨72, 14, (AskR.cells a vn vd), false, false⟩)) : stores Try.prog 3 (.ptr ⟨lv, ix, 2⟩) (.int .i64 n) M' = some (.undef, M'.set lv ix (Block.row ⟨72, 14, (AskR.cells {a with fid := n} vn vd), false, false⟩)) := by
  rw [store_cell (a := ⟨lv, ix, 2⟩) (r := ⟨72, 14, (AskR.cells a vn vd), false, false⟩) ti3 (by unfold getRow; simp only [h]) rfl rfl rfl (show 2 % 14 + 1 ≤ 14 by decide) rfl rfl]; rfl
theorem ks2_0 {n : Int} : stores Try.prog 3 (.ptr ⟨S.length + 1, 0, 2⟩) (.int .i64 n) ⟨H, (Block.row ⟨72, 14, (AskR.cells a vn vd), false, false⟩ :: F) :: S⟩ = some (.undef, ⟨H, (Block.row ⟨72, 14, (AskR.cells {a with fid := n} vn vd), false, false⟩ :: F) :: S⟩) := by
  have h := ks2 (a := a) (n := n) (gt0 (H := H) (S := S) (F := F) (X := Block.row ⟨72, 14, (AskR.cells a vn vd), false, false⟩))
  rw [sg0] at h; exact h
theorem ks2_1 {n : Int} : stores Try.prog 3 (.ptr ⟨S.length + 1, 1, 2⟩) (.int .i64 n) ⟨H, (B0 :: Block.row ⟨72, 14, (AskR.cells a vn vd), false, false⟩ :: F) :: S⟩ = some (.undef, ⟨H, (B0 :: Block.row ⟨72, 14, (AskR.cells {a with fid := n} vn vd), false, false⟩ :: F) :: S⟩) := by
  have h := ks2 (a := a) (n := n) (gt1 (H := H) (S := S) (F := F) (X := Block.row ⟨72, 14, (AskR.cells a vn vd), false, false⟩) (B0 := B0))
  rw [sg1] at h; exact h
theorem ks2_2 {n : Int} : stores Try.prog 3 (.ptr ⟨S.length + 1, 2, 2⟩) (.int .i64 n) ⟨H, (B0 :: B1 :: Block.row ⟨72, 14, (AskR.cells a vn vd), false, false⟩ :: F) :: S⟩ = some (.undef, ⟨H, (B0 :: B1 :: Block.row ⟨72, 14, (AskR.cells {a with fid := n} vn vd), false, false⟩ :: F) :: S⟩) := by
  have h := ks2 (a := a) (n := n) (gt2 (H := H) (S := S) (F := F) (X := Block.row ⟨72, 14, (AskR.cells a vn vd), false, false⟩) (B0 := B0) (B1 := B1))
  rw [sg2] at h; exact h
theorem kl3  (h : M'.get lv ix = some (Block.row ⟨72, 14, (AskR.cells a vn vd), false, false⟩)) : loadA Try.prog 3 (.ptr ⟨lv, ix, 3⟩) M' = some (.int .i64 a.newfid) := by
  rw [load_one (a := ⟨lv, ix, 3⟩) (r := ⟨72, 14, (AskR.cells a vn vd), false, false⟩) ti3 rfl (by unfold getRow; simp only [h])]; rfl
theorem kl3_0  : loadA Try.prog 3 (.ptr ⟨S.length + 1, 0, 3⟩) ⟨H, (Block.row ⟨72, 14, (AskR.cells a vn vd), false, false⟩ :: F) :: S⟩ = some (.int .i64 a.newfid) := by
  have h := kl3 (a := a) (gt0 (H := H) (S := S) (F := F) (X := Block.row ⟨72, 14, (AskR.cells a vn vd), false, false⟩))
  exact h
theorem kl3_1  : loadA Try.prog 3 (.ptr ⟨S.length + 1, 1, 3⟩) ⟨H, (B0 :: Block.row ⟨72, 14, (AskR.cells a vn vd), false, false⟩ :: F) :: S⟩ = some (.int .i64 a.newfid) := by
  have h := kl3 (a := a) (gt1 (H := H) (S := S) (F := F) (X := Block.row ⟨72, 14, (AskR.cells a vn vd), false, false⟩) (B0 := B0))
  exact h
theorem kl3_2  : loadA Try.prog 3 (.ptr ⟨S.length + 1, 2, 3⟩) ⟨H, (B0 :: B1 :: Block.row ⟨72, 14, (AskR.cells a vn vd), false, false⟩ :: F) :: S⟩ = some (.int .i64 a.newfid) := by
  have h := kl3 (a := a) (gt2 (H := H) (S := S) (F := F) (X := Block.row ⟨72, 14, (AskR.cells a vn vd), false, false⟩) (B0 := B0) (B1 := B1))
  exact h
theorem ks3 {n : Int} (h : M'.get lv ix = some (Block.row ⟨72, 14, (AskR.cells a vn vd), false, false⟩)) : stores Try.prog 3 (.ptr ⟨lv, ix, 3⟩) (.int .i64 n) M' = some (.undef, M'.set lv ix (Block.row ⟨72, 14, (AskR.cells {a with newfid := n} vn vd), false, false⟩)) := by
  rw [store_cell (a := ⟨lv, ix, 3⟩) (r := ⟨72, 14, (AskR.cells a vn vd), false, false⟩) ti3 (by unfold getRow; simp only [h]) rfl rfl rfl (show 3 % 14 + 1 ≤ 14 by decide) rfl rfl]; rfl
theorem ks3_0 {n : Int} : stores Try.prog 3 (.ptr ⟨S.length + 1, 0, 3⟩) (.int .i64 n) ⟨H, (Block.row ⟨72, 14, (AskR.cells a vn vd), false, false⟩ :: F) :: S⟩ = some (.undef, ⟨H, (Block.row ⟨72, 14, (AskR.cells {a with newfid := n} vn vd), false, false⟩ :: F) :: S⟩) := by
  have h := ks3 (a := a) (n := n) (gt0 (H := H) (S := S) (F := F) (X := Block.row ⟨72, 14, (AskR.cells a vn vd), false, false⟩))
  rw [sg0] at h; exact h
theorem ks3_1 {n : Int} : stores Try.prog 3 (.ptr ⟨S.length + 1, 1, 3⟩) (.int .i64 n) ⟨H, (B0 :: Block.row ⟨72, 14, (AskR.cells a vn vd), false, false⟩ :: F) :: S⟩ = some (.undef, ⟨H, (B0 :: Block.row ⟨72, 14, (AskR.cells {a with newfid := n} vn vd), false, false⟩ :: F) :: S⟩) := by
  have h := ks3 (a := a) (n := n) (gt1 (H := H) (S := S) (F := F) (X := Block.row ⟨72, 14, (AskR.cells a vn vd), false, false⟩) (B0 := B0))
  rw [sg1] at h; exact h
theorem ks3_2 {n : Int} : stores Try.prog 3 (.ptr ⟨S.length + 1, 2, 3⟩) (.int .i64 n) ⟨H, (B0 :: B1 :: Block.row ⟨72, 14, (AskR.cells a vn vd), false, false⟩ :: F) :: S⟩ = some (.undef, ⟨H, (B0 :: B1 :: Block.row ⟨72, 14, (AskR.cells {a with newfid := n} vn vd), false, false⟩ :: F) :: S⟩) := by
  have h := ks3 (a := a) (n := n) (gt2 (H := H) (S := S) (F := F) (X := Block.row ⟨72, 14, (AskR.cells a vn vd), false, false⟩) (B0 := B0) (B1 := B1))
  rw [sg2] at h; exact h
theorem kl4  (h : M'.get lv ix = some (Block.row ⟨72, 14, (AskR.cells a vn vd), false, false⟩)) : loadA Try.prog 3 (.ptr ⟨lv, ix, 4⟩) M' = some (.int .i64 a.oldtag) := by
  rw [load_one (a := ⟨lv, ix, 4⟩) (r := ⟨72, 14, (AskR.cells a vn vd), false, false⟩) ti3 rfl (by unfold getRow; simp only [h])]; rfl
theorem kl4_0  : loadA Try.prog 3 (.ptr ⟨S.length + 1, 0, 4⟩) ⟨H, (Block.row ⟨72, 14, (AskR.cells a vn vd), false, false⟩ :: F) :: S⟩ = some (.int .i64 a.oldtag) := by
  have h := kl4 (a := a) (gt0 (H := H) (S := S) (F := F) (X := Block.row ⟨72, 14, (AskR.cells a vn vd), false, false⟩))
  exact h
theorem kl4_1  : loadA Try.prog 3 (.ptr ⟨S.length + 1, 1, 4⟩) ⟨H, (B0 :: Block.row ⟨72, 14, (AskR.cells a vn vd), false, false⟩ :: F) :: S⟩ = some (.int .i64 a.oldtag) := by
  have h := kl4 (a := a) (gt1 (H := H) (S := S) (F := F) (X := Block.row ⟨72, 14, (AskR.cells a vn vd), false, false⟩) (B0 := B0))
  exact h
theorem kl4_2  : loadA Try.prog 3 (.ptr ⟨S.length + 1, 2, 4⟩) ⟨H, (B0 :: B1 :: Block.row ⟨72, 14, (AskR.cells a vn vd), false, false⟩ :: F) :: S⟩ = some (.int .i64 a.oldtag) := by
  have h := kl4 (a := a) (gt2 (H := H) (S := S) (F := F) (X := Block.row ⟨72, 14, (AskR.cells a vn vd), false, false⟩) (B0 := B0) (B1 := B1))
  exact h
theorem ks4 {n : Int} (h : M'.get lv ix = some (Block.row ⟨72, 14, (AskR.cells a vn vd), false, false⟩)) : stores Try.prog 3 (.ptr ⟨lv, ix, 4⟩) (.int .i64 n) M' = some (.undef, M'.set lv ix (Block.row ⟨72, 14, (AskR.cells {a with oldtag := n} vn vd), false, false⟩)) := by
  rw [store_cell (a := ⟨lv, ix, 4⟩) (r := ⟨72, 14, (AskR.cells a vn vd), false, false⟩) ti3 (by unfold getRow; simp only [h]) rfl rfl rfl (show 4 % 14 + 1 ≤ 14 by decide) rfl rfl]; rfl
theorem ks4_0 {n : Int} : stores Try.prog 3 (.ptr ⟨S.length + 1, 0, 4⟩) (.int .i64 n) ⟨H, (Block.row ⟨72, 14, (AskR.cells a vn vd), false, false⟩ :: F) :: S⟩ = some (.undef, ⟨H, (Block.row ⟨72, 14, (AskR.cells {a with oldtag := n} vn vd), false, false⟩ :: F) :: S⟩) := by
  have h := ks4 (a := a) (n := n) (gt0 (H := H) (S := S) (F := F) (X := Block.row ⟨72, 14, (AskR.cells a vn vd), false, false⟩))
  rw [sg0] at h; exact h
theorem ks4_1 {n : Int} : stores Try.prog 3 (.ptr ⟨S.length + 1, 1, 4⟩) (.int .i64 n) ⟨H, (B0 :: Block.row ⟨72, 14, (AskR.cells a vn vd), false, false⟩ :: F) :: S⟩ = some (.undef, ⟨H, (B0 :: Block.row ⟨72, 14, (AskR.cells {a with oldtag := n} vn vd), false, false⟩ :: F) :: S⟩) := by
  have h := ks4 (a := a) (n := n) (gt1 (H := H) (S := S) (F := F) (X := Block.row ⟨72, 14, (AskR.cells a vn vd), false, false⟩) (B0 := B0))
  rw [sg1] at h; exact h
theorem ks4_2 {n : Int} : stores Try.prog 3 (.ptr ⟨S.length + 1, 2, 4⟩) (.int .i64 n) ⟨H, (B0 :: B1 :: Block.row ⟨72, 14, (AskR.cells a vn vd), false, false⟩ :: F) :: S⟩ = some (.undef, ⟨H, (B0 :: B1 :: Block.row ⟨72, 14, (AskR.cells {a with oldtag := n} vn vd), false, false⟩ :: F) :: S⟩) := by
  have h := ks4 (a := a) (n := n) (gt2 (H := H) (S := S) (F := F) (X := Block.row ⟨72, 14, (AskR.cells a vn vd), false, false⟩) (B0 := B0) (B1 := B1))
  rw [sg2] at h; exact h
theorem kl5  (h : M'.get lv ix = some (Block.row ⟨72, 14, (AskR.cells a vn vd), false, false⟩)) : loadA Try.prog 3 (.ptr ⟨lv, ix, 5⟩) M' = some (.int .i64 a.msize) := by
  rw [load_one (a := ⟨lv, ix, 5⟩) (r := ⟨72, 14, (AskR.cells a vn vd), false, false⟩) ti3 rfl (by unfold getRow; simp only [h])]; rfl
theorem kl5_0  : loadA Try.prog 3 (.ptr ⟨S.length + 1, 0, 5⟩) ⟨H, (Block.row ⟨72, 14, (AskR.cells a vn vd), false, false⟩ :: F) :: S⟩ = some (.int .i64 a.msize) := by
  have h := kl5 (a := a) (gt0 (H := H) (S := S) (F := F) (X := Block.row ⟨72, 14, (AskR.cells a vn vd), false, false⟩))
  exact h
theorem kl5_1  : loadA Try.prog 3 (.ptr ⟨S.length + 1, 1, 5⟩) ⟨H, (B0 :: Block.row ⟨72, 14, (AskR.cells a vn vd), false, false⟩ :: F) :: S⟩ = some (.int .i64 a.msize) := by
  have h := kl5 (a := a) (gt1 (H := H) (S := S) (F := F) (X := Block.row ⟨72, 14, (AskR.cells a vn vd), false, false⟩) (B0 := B0))
  exact h
theorem kl5_2  : loadA Try.prog 3 (.ptr ⟨S.length + 1, 2, 5⟩) ⟨H, (B0 :: B1 :: Block.row ⟨72, 14, (AskR.cells a vn vd), false, false⟩ :: F) :: S⟩ = some (.int .i64 a.msize) := by
  have h := kl5 (a := a) (gt2 (H := H) (S := S) (F := F) (X := Block.row ⟨72, 14, (AskR.cells a vn vd), false, false⟩) (B0 := B0) (B1 := B1))
  exact h
theorem ks5 {n : Int} (h : M'.get lv ix = some (Block.row ⟨72, 14, (AskR.cells a vn vd), false, false⟩)) : stores Try.prog 3 (.ptr ⟨lv, ix, 5⟩) (.int .i64 n) M' = some (.undef, M'.set lv ix (Block.row ⟨72, 14, (AskR.cells {a with msize := n} vn vd), false, false⟩)) := by
  rw [store_cell (a := ⟨lv, ix, 5⟩) (r := ⟨72, 14, (AskR.cells a vn vd), false, false⟩) ti3 (by unfold getRow; simp only [h]) rfl rfl rfl (show 5 % 14 + 1 ≤ 14 by decide) rfl rfl]; rfl
theorem ks5_0 {n : Int} : stores Try.prog 3 (.ptr ⟨S.length + 1, 0, 5⟩) (.int .i64 n) ⟨H, (Block.row ⟨72, 14, (AskR.cells a vn vd), false, false⟩ :: F) :: S⟩ = some (.undef, ⟨H, (Block.row ⟨72, 14, (AskR.cells {a with msize := n} vn vd), false, false⟩ :: F) :: S⟩) := by
  have h := ks5 (a := a) (n := n) (gt0 (H := H) (S := S) (F := F) (X := Block.row ⟨72, 14, (AskR.cells a vn vd), false, false⟩))
  rw [sg0] at h; exact h
theorem ks5_1 {n : Int} : stores Try.prog 3 (.ptr ⟨S.length + 1, 1, 5⟩) (.int .i64 n) ⟨H, (B0 :: Block.row ⟨72, 14, (AskR.cells a vn vd), false, false⟩ :: F) :: S⟩ = some (.undef, ⟨H, (B0 :: Block.row ⟨72, 14, (AskR.cells {a with msize := n} vn vd), false, false⟩ :: F) :: S⟩) := by
  have h := ks5 (a := a) (n := n) (gt1 (H := H) (S := S) (F := F) (X := Block.row ⟨72, 14, (AskR.cells a vn vd), false, false⟩) (B0 := B0))
  rw [sg1] at h; exact h
theorem ks5_2 {n : Int} : stores Try.prog 3 (.ptr ⟨S.length + 1, 2, 5⟩) (.int .i64 n) ⟨H, (B0 :: B1 :: Block.row ⟨72, 14, (AskR.cells a vn vd), false, false⟩ :: F) :: S⟩ = some (.undef, ⟨H, (B0 :: B1 :: Block.row ⟨72, 14, (AskR.cells {a with msize := n} vn vd), false, false⟩ :: F) :: S⟩) := by
  have h := ks5 (a := a) (n := n) (gt2 (H := H) (S := S) (F := F) (X := Block.row ⟨72, 14, (AskR.cells a vn vd), false, false⟩) (B0 := B0) (B1 := B1))
  rw [sg2] at h; exact h
theorem kl6  (h : M'.get lv ix = some (Block.row ⟨72, 14, (AskR.cells a vn vd), false, false⟩)) : loadA Try.prog 3 (.ptr ⟨lv, ix, 6⟩) M' = some (.int .i64 a.mode) := by
  rw [load_one (a := ⟨lv, ix, 6⟩) (r := ⟨72, 14, (AskR.cells a vn vd), false, false⟩) ti3 rfl (by unfold getRow; simp only [h])]; rfl
theorem kl6_0  : loadA Try.prog 3 (.ptr ⟨S.length + 1, 0, 6⟩) ⟨H, (Block.row ⟨72, 14, (AskR.cells a vn vd), false, false⟩ :: F) :: S⟩ = some (.int .i64 a.mode) := by
  have h := kl6 (a := a) (gt0 (H := H) (S := S) (F := F) (X := Block.row ⟨72, 14, (AskR.cells a vn vd), false, false⟩))
  exact h
theorem kl6_1  : loadA Try.prog 3 (.ptr ⟨S.length + 1, 1, 6⟩) ⟨H, (B0 :: Block.row ⟨72, 14, (AskR.cells a vn vd), false, false⟩ :: F) :: S⟩ = some (.int .i64 a.mode) := by
  have h := kl6 (a := a) (gt1 (H := H) (S := S) (F := F) (X := Block.row ⟨72, 14, (AskR.cells a vn vd), false, false⟩) (B0 := B0))
  exact h
theorem kl6_2  : loadA Try.prog 3 (.ptr ⟨S.length + 1, 2, 6⟩) ⟨H, (B0 :: B1 :: Block.row ⟨72, 14, (AskR.cells a vn vd), false, false⟩ :: F) :: S⟩ = some (.int .i64 a.mode) := by
  have h := kl6 (a := a) (gt2 (H := H) (S := S) (F := F) (X := Block.row ⟨72, 14, (AskR.cells a vn vd), false, false⟩) (B0 := B0) (B1 := B1))
  exact h
theorem ks6 {n : Int} (h : M'.get lv ix = some (Block.row ⟨72, 14, (AskR.cells a vn vd), false, false⟩)) : stores Try.prog 3 (.ptr ⟨lv, ix, 6⟩) (.int .i64 n) M' = some (.undef, M'.set lv ix (Block.row ⟨72, 14, (AskR.cells {a with mode := n} vn vd), false, false⟩)) := by
  rw [store_cell (a := ⟨lv, ix, 6⟩) (r := ⟨72, 14, (AskR.cells a vn vd), false, false⟩) ti3 (by unfold getRow; simp only [h]) rfl rfl rfl (show 6 % 14 + 1 ≤ 14 by decide) rfl rfl]; rfl
theorem ks6_0 {n : Int} : stores Try.prog 3 (.ptr ⟨S.length + 1, 0, 6⟩) (.int .i64 n) ⟨H, (Block.row ⟨72, 14, (AskR.cells a vn vd), false, false⟩ :: F) :: S⟩ = some (.undef, ⟨H, (Block.row ⟨72, 14, (AskR.cells {a with mode := n} vn vd), false, false⟩ :: F) :: S⟩) := by
  have h := ks6 (a := a) (n := n) (gt0 (H := H) (S := S) (F := F) (X := Block.row ⟨72, 14, (AskR.cells a vn vd), false, false⟩))
  rw [sg0] at h; exact h
theorem ks6_1 {n : Int} : stores Try.prog 3 (.ptr ⟨S.length + 1, 1, 6⟩) (.int .i64 n) ⟨H, (B0 :: Block.row ⟨72, 14, (AskR.cells a vn vd), false, false⟩ :: F) :: S⟩ = some (.undef, ⟨H, (B0 :: Block.row ⟨72, 14, (AskR.cells {a with mode := n} vn vd), false, false⟩ :: F) :: S⟩) := by
  have h := ks6 (a := a) (n := n) (gt1 (H := H) (S := S) (F := F) (X := Block.row ⟨72, 14, (AskR.cells a vn vd), false, false⟩) (B0 := B0))
  rw [sg1] at h; exact h
theorem ks6_2 {n : Int} : stores Try.prog 3 (.ptr ⟨S.length + 1, 2, 6⟩) (.int .i64 n) ⟨H, (B0 :: B1 :: Block.row ⟨72, 14, (AskR.cells a vn vd), false, false⟩ :: F) :: S⟩ = some (.undef, ⟨H, (B0 :: B1 :: Block.row ⟨72, 14, (AskR.cells {a with mode := n} vn vd), false, false⟩ :: F) :: S⟩) := by
  have h := ks6 (a := a) (n := n) (gt2 (H := H) (S := S) (F := F) (X := Block.row ⟨72, 14, (AskR.cells a vn vd), false, false⟩) (B0 := B0) (B1 := B1))
  rw [sg2] at h; exact h
theorem kl7  (h : M'.get lv ix = some (Block.row ⟨72, 14, (AskR.cells a vn vd), false, false⟩)) : loadA Try.prog 3 (.ptr ⟨lv, ix, 7⟩) M' = some (.int .i64 a.perm) := by
  rw [load_one (a := ⟨lv, ix, 7⟩) (r := ⟨72, 14, (AskR.cells a vn vd), false, false⟩) ti3 rfl (by unfold getRow; simp only [h])]; rfl
theorem kl7_0  : loadA Try.prog 3 (.ptr ⟨S.length + 1, 0, 7⟩) ⟨H, (Block.row ⟨72, 14, (AskR.cells a vn vd), false, false⟩ :: F) :: S⟩ = some (.int .i64 a.perm) := by
  have h := kl7 (a := a) (gt0 (H := H) (S := S) (F := F) (X := Block.row ⟨72, 14, (AskR.cells a vn vd), false, false⟩))
  exact h
theorem kl7_1  : loadA Try.prog 3 (.ptr ⟨S.length + 1, 1, 7⟩) ⟨H, (B0 :: Block.row ⟨72, 14, (AskR.cells a vn vd), false, false⟩ :: F) :: S⟩ = some (.int .i64 a.perm) := by
  have h := kl7 (a := a) (gt1 (H := H) (S := S) (F := F) (X := Block.row ⟨72, 14, (AskR.cells a vn vd), false, false⟩) (B0 := B0))
  exact h
theorem kl7_2  : loadA Try.prog 3 (.ptr ⟨S.length + 1, 2, 7⟩) ⟨H, (B0 :: B1 :: Block.row ⟨72, 14, (AskR.cells a vn vd), false, false⟩ :: F) :: S⟩ = some (.int .i64 a.perm) := by
  have h := kl7 (a := a) (gt2 (H := H) (S := S) (F := F) (X := Block.row ⟨72, 14, (AskR.cells a vn vd), false, false⟩) (B0 := B0) (B1 := B1))
  exact h
theorem ks7 {n : Int} (h : M'.get lv ix = some (Block.row ⟨72, 14, (AskR.cells a vn vd), false, false⟩)) : stores Try.prog 3 (.ptr ⟨lv, ix, 7⟩) (.int .i64 n) M' = some (.undef, M'.set lv ix (Block.row ⟨72, 14, (AskR.cells {a with perm := n} vn vd), false, false⟩)) := by
  rw [store_cell (a := ⟨lv, ix, 7⟩) (r := ⟨72, 14, (AskR.cells a vn vd), false, false⟩) ti3 (by unfold getRow; simp only [h]) rfl rfl rfl (show 7 % 14 + 1 ≤ 14 by decide) rfl rfl]; rfl
theorem ks7_0 {n : Int} : stores Try.prog 3 (.ptr ⟨S.length + 1, 0, 7⟩) (.int .i64 n) ⟨H, (Block.row ⟨72, 14, (AskR.cells a vn vd), false, false⟩ :: F) :: S⟩ = some (.undef, ⟨H, (Block.row ⟨72, 14, (AskR.cells {a with perm := n} vn vd), false, false⟩ :: F) :: S⟩) := by
  have h := ks7 (a := a) (n := n) (gt0 (H := H) (S := S) (F := F) (X := Block.row ⟨72, 14, (AskR.cells a vn vd), false, false⟩))
  rw [sg0] at h; exact h
theorem ks7_1 {n : Int} : stores Try.prog 3 (.ptr ⟨S.length + 1, 1, 7⟩) (.int .i64 n) ⟨H, (B0 :: Block.row ⟨72, 14, (AskR.cells a vn vd), false, false⟩ :: F) :: S⟩ = some (.undef, ⟨H, (B0 :: Block.row ⟨72, 14, (AskR.cells {a with perm := n} vn vd), false, false⟩ :: F) :: S⟩) := by
  have h := ks7 (a := a) (n := n) (gt1 (H := H) (S := S) (F := F) (X := Block.row ⟨72, 14, (AskR.cells a vn vd), false, false⟩) (B0 := B0))
  rw [sg1] at h; exact h
theorem ks7_2 {n : Int} : stores Try.prog 3 (.ptr ⟨S.length + 1, 2, 7⟩) (.int .i64 n) ⟨H, (B0 :: B1 :: Block.row ⟨72, 14, (AskR.cells a vn vd), false, false⟩ :: F) :: S⟩ = some (.undef, ⟨H, (B0 :: B1 :: Block.row ⟨72, 14, (AskR.cells {a with perm := n} vn vd), false, false⟩ :: F) :: S⟩) := by
  have h := ks7 (a := a) (n := n) (gt2 (H := H) (S := S) (F := F) (X := Block.row ⟨72, 14, (AskR.cells a vn vd), false, false⟩) (B0 := B0) (B1 := B1))
  rw [sg2] at h; exact h
theorem kl8  (h : M'.get lv ix = some (Block.row ⟨72, 14, (AskR.cells a vn vd), false, false⟩)) : loadA Try.prog 3 (.ptr ⟨lv, ix, 8⟩) M' = some (.int .i64 a.off) := by
  rw [load_one (a := ⟨lv, ix, 8⟩) (r := ⟨72, 14, (AskR.cells a vn vd), false, false⟩) ti3 rfl (by unfold getRow; simp only [h])]; rfl
theorem kl8_0  : loadA Try.prog 3 (.ptr ⟨S.length + 1, 0, 8⟩) ⟨H, (Block.row ⟨72, 14, (AskR.cells a vn vd), false, false⟩ :: F) :: S⟩ = some (.int .i64 a.off) := by
  have h := kl8 (a := a) (gt0 (H := H) (S := S) (F := F) (X := Block.row ⟨72, 14, (AskR.cells a vn vd), false, false⟩))
  exact h
theorem kl8_1  : loadA Try.prog 3 (.ptr ⟨S.length + 1, 1, 8⟩) ⟨H, (B0 :: Block.row ⟨72, 14, (AskR.cells a vn vd), false, false⟩ :: F) :: S⟩ = some (.int .i64 a.off) := by
  have h := kl8 (a := a) (gt1 (H := H) (S := S) (F := F) (X := Block.row ⟨72, 14, (AskR.cells a vn vd), false, false⟩) (B0 := B0))
  exact h
theorem kl8_2  : loadA Try.prog 3 (.ptr ⟨S.length + 1, 2, 8⟩) ⟨H, (B0 :: B1 :: Block.row ⟨72, 14, (AskR.cells a vn vd), false, false⟩ :: F) :: S⟩ = some (.int .i64 a.off) := by
  have h := kl8 (a := a) (gt2 (H := H) (S := S) (F := F) (X := Block.row ⟨72, 14, (AskR.cells a vn vd), false, false⟩) (B0 := B0) (B1 := B1))
  exact h
theorem ks8 {n : Int} (h : M'.get lv ix = some (Block.row ⟨72, 14, (AskR.cells a vn vd), false, false⟩)) : stores Try.prog 3 (.ptr ⟨lv, ix, 8⟩) (.int .i64 n) M' = some (.undef, M'.set lv ix (Block.row ⟨72, 14, (AskR.cells {a with off := n} vn vd), false, false⟩)) := by
  rw [store_cell (a := ⟨lv, ix, 8⟩) (r := ⟨72, 14, (AskR.cells a vn vd), false, false⟩) ti3 (by unfold getRow; simp only [h]) rfl rfl rfl (show 8 % 14 + 1 ≤ 14 by decide) rfl rfl]; rfl
theorem ks8_0 {n : Int} : stores Try.prog 3 (.ptr ⟨S.length + 1, 0, 8⟩) (.int .i64 n) ⟨H, (Block.row ⟨72, 14, (AskR.cells a vn vd), false, false⟩ :: F) :: S⟩ = some (.undef, ⟨H, (Block.row ⟨72, 14, (AskR.cells {a with off := n} vn vd), false, false⟩ :: F) :: S⟩) := by
  have h := ks8 (a := a) (n := n) (gt0 (H := H) (S := S) (F := F) (X := Block.row ⟨72, 14, (AskR.cells a vn vd), false, false⟩))
  rw [sg0] at h; exact h
theorem ks8_1 {n : Int} : stores Try.prog 3 (.ptr ⟨S.length + 1, 1, 8⟩) (.int .i64 n) ⟨H, (B0 :: Block.row ⟨72, 14, (AskR.cells a vn vd), false, false⟩ :: F) :: S⟩ = some (.undef, ⟨H, (B0 :: Block.row ⟨72, 14, (AskR.cells {a with off := n} vn vd), false, false⟩ :: F) :: S⟩) := by
  have h := ks8 (a := a) (n := n) (gt1 (H := H) (S := S) (F := F) (X := Block.row ⟨72, 14, (AskR.cells a vn vd), false, false⟩) (B0 := B0))
  rw [sg1] at h; exact h
theorem ks8_2 {n : Int} : stores Try.prog 3 (.ptr ⟨S.length + 1, 2, 8⟩) (.int .i64 n) ⟨H, (B0 :: B1 :: Block.row ⟨72, 14, (AskR.cells a vn vd), false, false⟩ :: F) :: S⟩ = some (.undef, ⟨H, (B0 :: B1 :: Block.row ⟨72, 14, (AskR.cells {a with off := n} vn vd), false, false⟩ :: F) :: S⟩) := by
  have h := ks8 (a := a) (n := n) (gt2 (H := H) (S := S) (F := F) (X := Block.row ⟨72, 14, (AskR.cells a vn vd), false, false⟩) (B0 := B0) (B1 := B1))
  rw [sg2] at h; exact h
theorem kl9  (h : M'.get lv ix = some (Block.row ⟨72, 14, (AskR.cells a vn vd), false, false⟩)) : loadA Try.prog 3 (.ptr ⟨lv, ix, 9⟩) M' = some (.int .i64 a.count) := by
  rw [load_one (a := ⟨lv, ix, 9⟩) (r := ⟨72, 14, (AskR.cells a vn vd), false, false⟩) ti3 rfl (by unfold getRow; simp only [h])]; rfl
theorem kl9_0  : loadA Try.prog 3 (.ptr ⟨S.length + 1, 0, 9⟩) ⟨H, (Block.row ⟨72, 14, (AskR.cells a vn vd), false, false⟩ :: F) :: S⟩ = some (.int .i64 a.count) := by
  have h := kl9 (a := a) (gt0 (H := H) (S := S) (F := F) (X := Block.row ⟨72, 14, (AskR.cells a vn vd), false, false⟩))
  exact h
theorem kl9_1  : loadA Try.prog 3 (.ptr ⟨S.length + 1, 1, 9⟩) ⟨H, (B0 :: Block.row ⟨72, 14, (AskR.cells a vn vd), false, false⟩ :: F) :: S⟩ = some (.int .i64 a.count) := by
  have h := kl9 (a := a) (gt1 (H := H) (S := S) (F := F) (X := Block.row ⟨72, 14, (AskR.cells a vn vd), false, false⟩) (B0 := B0))
  exact h
theorem kl9_2  : loadA Try.prog 3 (.ptr ⟨S.length + 1, 2, 9⟩) ⟨H, (B0 :: B1 :: Block.row ⟨72, 14, (AskR.cells a vn vd), false, false⟩ :: F) :: S⟩ = some (.int .i64 a.count) := by
  have h := kl9 (a := a) (gt2 (H := H) (S := S) (F := F) (X := Block.row ⟨72, 14, (AskR.cells a vn vd), false, false⟩) (B0 := B0) (B1 := B1))
  exact h
theorem ks9 {n : Int} (h : M'.get lv ix = some (Block.row ⟨72, 14, (AskR.cells a vn vd), false, false⟩)) : stores Try.prog 3 (.ptr ⟨lv, ix, 9⟩) (.int .i64 n) M' = some (.undef, M'.set lv ix (Block.row ⟨72, 14, (AskR.cells {a with count := n} vn vd), false, false⟩)) := by
  rw [store_cell (a := ⟨lv, ix, 9⟩) (r := ⟨72, 14, (AskR.cells a vn vd), false, false⟩) ti3 (by unfold getRow; simp only [h]) rfl rfl rfl (show 9 % 14 + 1 ≤ 14 by decide) rfl rfl]; rfl
theorem ks9_0 {n : Int} : stores Try.prog 3 (.ptr ⟨S.length + 1, 0, 9⟩) (.int .i64 n) ⟨H, (Block.row ⟨72, 14, (AskR.cells a vn vd), false, false⟩ :: F) :: S⟩ = some (.undef, ⟨H, (Block.row ⟨72, 14, (AskR.cells {a with count := n} vn vd), false, false⟩ :: F) :: S⟩) := by
  have h := ks9 (a := a) (n := n) (gt0 (H := H) (S := S) (F := F) (X := Block.row ⟨72, 14, (AskR.cells a vn vd), false, false⟩))
  rw [sg0] at h; exact h
theorem ks9_1 {n : Int} : stores Try.prog 3 (.ptr ⟨S.length + 1, 1, 9⟩) (.int .i64 n) ⟨H, (B0 :: Block.row ⟨72, 14, (AskR.cells a vn vd), false, false⟩ :: F) :: S⟩ = some (.undef, ⟨H, (B0 :: Block.row ⟨72, 14, (AskR.cells {a with count := n} vn vd), false, false⟩ :: F) :: S⟩) := by
  have h := ks9 (a := a) (n := n) (gt1 (H := H) (S := S) (F := F) (X := Block.row ⟨72, 14, (AskR.cells a vn vd), false, false⟩) (B0 := B0))
  rw [sg1] at h; exact h
theorem ks9_2 {n : Int} : stores Try.prog 3 (.ptr ⟨S.length + 1, 2, 9⟩) (.int .i64 n) ⟨H, (B0 :: B1 :: Block.row ⟨72, 14, (AskR.cells a vn vd), false, false⟩ :: F) :: S⟩ = some (.undef, ⟨H, (B0 :: B1 :: Block.row ⟨72, 14, (AskR.cells {a with count := n} vn vd), false, false⟩ :: F) :: S⟩) := by
  have h := ks9 (a := a) (n := n) (gt2 (H := H) (S := S) (F := F) (X := Block.row ⟨72, 14, (AskR.cells a vn vd), false, false⟩) (B0 := B0) (B1 := B1))
  rw [sg2] at h; exact h
theorem kl10  (h : M'.get lv ix = some (Block.row ⟨72, 14, (AskR.cells a vn vd), false, false⟩)) : loadA Try.prog 9 (.ptr ⟨lv, ix, 10⟩) M' = some (.str a.name) := by
  rw [load_one (a := ⟨lv, ix, 10⟩) (r := ⟨72, 14, (AskR.cells a vn vd), false, false⟩) ti9 rfl (by unfold getRow; simp only [h])]; rfl
theorem kl10_0  : loadA Try.prog 9 (.ptr ⟨S.length + 1, 0, 10⟩) ⟨H, (Block.row ⟨72, 14, (AskR.cells a vn vd), false, false⟩ :: F) :: S⟩ = some (.str a.name) := by
  have h := kl10 (a := a) (gt0 (H := H) (S := S) (F := F) (X := Block.row ⟨72, 14, (AskR.cells a vn vd), false, false⟩))
  exact h
theorem kl10_1  : loadA Try.prog 9 (.ptr ⟨S.length + 1, 1, 10⟩) ⟨H, (B0 :: Block.row ⟨72, 14, (AskR.cells a vn vd), false, false⟩ :: F) :: S⟩ = some (.str a.name) := by
  have h := kl10 (a := a) (gt1 (H := H) (S := S) (F := F) (X := Block.row ⟨72, 14, (AskR.cells a vn vd), false, false⟩) (B0 := B0))
  exact h
theorem kl10_2  : loadA Try.prog 9 (.ptr ⟨S.length + 1, 2, 10⟩) ⟨H, (B0 :: B1 :: Block.row ⟨72, 14, (AskR.cells a vn vd), false, false⟩ :: F) :: S⟩ = some (.str a.name) := by
  have h := kl10 (a := a) (gt2 (H := H) (S := S) (F := F) (X := Block.row ⟨72, 14, (AskR.cells a vn vd), false, false⟩) (B0 := B0) (B1 := B1))
  exact h
theorem ks10 {n : List UInt8} (h : M'.get lv ix = some (Block.row ⟨72, 14, (AskR.cells a vn vd), false, false⟩)) : stores Try.prog 9 (.ptr ⟨lv, ix, 10⟩) (.str n) M' = some (.undef, M'.set lv ix (Block.row ⟨72, 14, (AskR.cells {a with name := n} vn vd), false, false⟩)) := by
  rw [store_cell (a := ⟨lv, ix, 10⟩) (r := ⟨72, 14, (AskR.cells a vn vd), false, false⟩) ti9 (by unfold getRow; simp only [h]) rfl rfl rfl (show 10 % 14 + 1 ≤ 14 by decide) rfl rfl]; rfl
theorem ks10_0 {n : List UInt8} : stores Try.prog 9 (.ptr ⟨S.length + 1, 0, 10⟩) (.str n) ⟨H, (Block.row ⟨72, 14, (AskR.cells a vn vd), false, false⟩ :: F) :: S⟩ = some (.undef, ⟨H, (Block.row ⟨72, 14, (AskR.cells {a with name := n} vn vd), false, false⟩ :: F) :: S⟩) := by
  have h := ks10 (a := a) (n := n) (gt0 (H := H) (S := S) (F := F) (X := Block.row ⟨72, 14, (AskR.cells a vn vd), false, false⟩))
  rw [sg0] at h; exact h
theorem ks10_1 {n : List UInt8} : stores Try.prog 9 (.ptr ⟨S.length + 1, 1, 10⟩) (.str n) ⟨H, (B0 :: Block.row ⟨72, 14, (AskR.cells a vn vd), false, false⟩ :: F) :: S⟩ = some (.undef, ⟨H, (B0 :: Block.row ⟨72, 14, (AskR.cells {a with name := n} vn vd), false, false⟩ :: F) :: S⟩) := by
  have h := ks10 (a := a) (n := n) (gt1 (H := H) (S := S) (F := F) (X := Block.row ⟨72, 14, (AskR.cells a vn vd), false, false⟩) (B0 := B0))
  rw [sg1] at h; exact h
theorem ks10_2 {n : List UInt8} : stores Try.prog 9 (.ptr ⟨S.length + 1, 2, 10⟩) (.str n) ⟨H, (B0 :: B1 :: Block.row ⟨72, 14, (AskR.cells a vn vd), false, false⟩ :: F) :: S⟩ = some (.undef, ⟨H, (B0 :: B1 :: Block.row ⟨72, 14, (AskR.cells {a with name := n} vn vd), false, false⟩ :: F) :: S⟩) := by
  have h := ks10 (a := a) (n := n) (gt2 (H := H) (S := S) (F := F) (X := Block.row ⟨72, 14, (AskR.cells a vn vd), false, false⟩) (B0 := B0) (B1 := B1))
  rw [sg2] at h; exact h
theorem kl11  (h : M'.get lv ix = some (Block.row ⟨72, 14, (AskR.cells a vn vd), false, false⟩)) : loadA Try.prog 70 (.ptr ⟨lv, ix, 11⟩) M' = some (vn) := by
  rw [load_one (a := ⟨lv, ix, 11⟩) (r := ⟨72, 14, (AskR.cells a vn vd), false, false⟩) ti70 rfl (by unfold getRow; simp only [h])]; rfl
theorem kl11_0  : loadA Try.prog 70 (.ptr ⟨S.length + 1, 0, 11⟩) ⟨H, (Block.row ⟨72, 14, (AskR.cells a vn vd), false, false⟩ :: F) :: S⟩ = some (vn) := by
  have h := kl11 (a := a) (gt0 (H := H) (S := S) (F := F) (X := Block.row ⟨72, 14, (AskR.cells a vn vd), false, false⟩))
  exact h
theorem kl11_1  : loadA Try.prog 70 (.ptr ⟨S.length + 1, 1, 11⟩) ⟨H, (B0 :: Block.row ⟨72, 14, (AskR.cells a vn vd), false, false⟩ :: F) :: S⟩ = some (vn) := by
  have h := kl11 (a := a) (gt1 (H := H) (S := S) (F := F) (X := Block.row ⟨72, 14, (AskR.cells a vn vd), false, false⟩) (B0 := B0))
  exact h
theorem kl11_2  : loadA Try.prog 70 (.ptr ⟨S.length + 1, 2, 11⟩) ⟨H, (B0 :: B1 :: Block.row ⟨72, 14, (AskR.cells a vn vd), false, false⟩ :: F) :: S⟩ = some (vn) := by
  have h := kl11 (a := a) (gt2 (H := H) (S := S) (F := F) (X := Block.row ⟨72, 14, (AskR.cells a vn vd), false, false⟩) (B0 := B0) (B1 := B1))
  exact h
theorem ks11 {x : AV} (hx : x.st = true) (hc : x.cells = [x]) (h : M'.get lv ix = some (Block.row ⟨72, 14, (AskR.cells a vn vd), false, false⟩)) : stores Try.prog 70 (.ptr ⟨lv, ix, 11⟩) (x) M' = some (.undef, M'.set lv ix (Block.row ⟨72, 14, (AskR.cells a x vd), false, false⟩)) := by
  rw [store_cell (a := ⟨lv, ix, 11⟩) (r := ⟨72, 14, (AskR.cells a vn vd), false, false⟩) ti70 (by unfold getRow; simp only [h]) rfl rfl rfl (show 11 % 14 + 1 ≤ 14 by decide) hx hc]; rfl
theorem ks11_0 {x : AV} (hx : x.st = true) (hc : x.cells = [x]) : stores Try.prog 70 (.ptr ⟨S.length + 1, 0, 11⟩) (x) ⟨H, (Block.row ⟨72, 14, (AskR.cells a vn vd), false, false⟩ :: F) :: S⟩ = some (.undef, ⟨H, (Block.row ⟨72, 14, (AskR.cells a x vd), false, false⟩ :: F) :: S⟩) := by
  have h := ks11 (a := a) (x := x) (hx := hx) (hc := hc) (gt0 (H := H) (S := S) (F := F) (X := Block.row ⟨72, 14, (AskR.cells a vn vd), false, false⟩))
  rw [sg0] at h; exact h
theorem ks11_1 {x : AV} (hx : x.st = true) (hc : x.cells = [x]) : stores Try.prog 70 (.ptr ⟨S.length + 1, 1, 11⟩) (x) ⟨H, (B0 :: Block.row ⟨72, 14, (AskR.cells a vn vd), false, false⟩ :: F) :: S⟩ = some (.undef, ⟨H, (B0 :: Block.row ⟨72, 14, (AskR.cells a x vd), false, false⟩ :: F) :: S⟩) := by
  have h := ks11 (a := a) (x := x) (hx := hx) (hc := hc) (gt1 (H := H) (S := S) (F := F) (X := Block.row ⟨72, 14, (AskR.cells a vn vd), false, false⟩) (B0 := B0))
  rw [sg1] at h; exact h
theorem ks11_2 {x : AV} (hx : x.st = true) (hc : x.cells = [x]) : stores Try.prog 70 (.ptr ⟨S.length + 1, 2, 11⟩) (x) ⟨H, (B0 :: B1 :: Block.row ⟨72, 14, (AskR.cells a vn vd), false, false⟩ :: F) :: S⟩ = some (.undef, ⟨H, (B0 :: B1 :: Block.row ⟨72, 14, (AskR.cells a x vd), false, false⟩ :: F) :: S⟩) := by
  have h := ks11 (a := a) (x := x) (hx := hx) (hc := hc) (gt2 (H := H) (S := S) (F := F) (X := Block.row ⟨72, 14, (AskR.cells a vn vd), false, false⟩) (B0 := B0) (B1 := B1))
  rw [sg2] at h; exact h
theorem kl12  (h : M'.get lv ix = some (Block.row ⟨72, 14, (AskR.cells a vn vd), false, false⟩)) : loadA Try.prog 3 (.ptr ⟨lv, ix, 12⟩) M' = some (.int .i64 a.size) := by
  rw [load_one (a := ⟨lv, ix, 12⟩) (r := ⟨72, 14, (AskR.cells a vn vd), false, false⟩) ti3 rfl (by unfold getRow; simp only [h])]; rfl
theorem kl12_0  : loadA Try.prog 3 (.ptr ⟨S.length + 1, 0, 12⟩) ⟨H, (Block.row ⟨72, 14, (AskR.cells a vn vd), false, false⟩ :: F) :: S⟩ = some (.int .i64 a.size) := by
  have h := kl12 (a := a) (gt0 (H := H) (S := S) (F := F) (X := Block.row ⟨72, 14, (AskR.cells a vn vd), false, false⟩))
  exact h
theorem kl12_1  : loadA Try.prog 3 (.ptr ⟨S.length + 1, 1, 12⟩) ⟨H, (B0 :: Block.row ⟨72, 14, (AskR.cells a vn vd), false, false⟩ :: F) :: S⟩ = some (.int .i64 a.size) := by
  have h := kl12 (a := a) (gt1 (H := H) (S := S) (F := F) (X := Block.row ⟨72, 14, (AskR.cells a vn vd), false, false⟩) (B0 := B0))
  exact h
theorem kl12_2  : loadA Try.prog 3 (.ptr ⟨S.length + 1, 2, 12⟩) ⟨H, (B0 :: B1 :: Block.row ⟨72, 14, (AskR.cells a vn vd), false, false⟩ :: F) :: S⟩ = some (.int .i64 a.size) := by
  have h := kl12 (a := a) (gt2 (H := H) (S := S) (F := F) (X := Block.row ⟨72, 14, (AskR.cells a vn vd), false, false⟩) (B0 := B0) (B1 := B1))
  exact h
theorem ks12 {n : Int} (h : M'.get lv ix = some (Block.row ⟨72, 14, (AskR.cells a vn vd), false, false⟩)) : stores Try.prog 3 (.ptr ⟨lv, ix, 12⟩) (.int .i64 n) M' = some (.undef, M'.set lv ix (Block.row ⟨72, 14, (AskR.cells {a with size := n} vn vd), false, false⟩)) := by
  rw [store_cell (a := ⟨lv, ix, 12⟩) (r := ⟨72, 14, (AskR.cells a vn vd), false, false⟩) ti3 (by unfold getRow; simp only [h]) rfl rfl rfl (show 12 % 14 + 1 ≤ 14 by decide) rfl rfl]; rfl
theorem ks12_0 {n : Int} : stores Try.prog 3 (.ptr ⟨S.length + 1, 0, 12⟩) (.int .i64 n) ⟨H, (Block.row ⟨72, 14, (AskR.cells a vn vd), false, false⟩ :: F) :: S⟩ = some (.undef, ⟨H, (Block.row ⟨72, 14, (AskR.cells {a with size := n} vn vd), false, false⟩ :: F) :: S⟩) := by
  have h := ks12 (a := a) (n := n) (gt0 (H := H) (S := S) (F := F) (X := Block.row ⟨72, 14, (AskR.cells a vn vd), false, false⟩))
  rw [sg0] at h; exact h
theorem ks12_1 {n : Int} : stores Try.prog 3 (.ptr ⟨S.length + 1, 1, 12⟩) (.int .i64 n) ⟨H, (B0 :: Block.row ⟨72, 14, (AskR.cells a vn vd), false, false⟩ :: F) :: S⟩ = some (.undef, ⟨H, (B0 :: Block.row ⟨72, 14, (AskR.cells {a with size := n} vn vd), false, false⟩ :: F) :: S⟩) := by
  have h := ks12 (a := a) (n := n) (gt1 (H := H) (S := S) (F := F) (X := Block.row ⟨72, 14, (AskR.cells a vn vd), false, false⟩) (B0 := B0))
  rw [sg1] at h; exact h
theorem ks12_2 {n : Int} : stores Try.prog 3 (.ptr ⟨S.length + 1, 2, 12⟩) (.int .i64 n) ⟨H, (B0 :: B1 :: Block.row ⟨72, 14, (AskR.cells a vn vd), false, false⟩ :: F) :: S⟩ = some (.undef, ⟨H, (B0 :: B1 :: Block.row ⟨72, 14, (AskR.cells {a with size := n} vn vd), false, false⟩ :: F) :: S⟩) := by
  have h := ks12 (a := a) (n := n) (gt2 (H := H) (S := S) (F := F) (X := Block.row ⟨72, 14, (AskR.cells a vn vd), false, false⟩) (B0 := B0) (B1 := B1))
  rw [sg2] at h; exact h
theorem kl13  (h : M'.get lv ix = some (Block.row ⟨72, 14, (AskR.cells a vn vd), false, false⟩)) : loadA Try.prog 22 (.ptr ⟨lv, ix, 13⟩) M' = some (vd) := by
  rw [load_one (a := ⟨lv, ix, 13⟩) (r := ⟨72, 14, (AskR.cells a vn vd), false, false⟩) ti22 rfl (by unfold getRow; simp only [h])]; rfl
theorem kl13_0  : loadA Try.prog 22 (.ptr ⟨S.length + 1, 0, 13⟩) ⟨H, (Block.row ⟨72, 14, (AskR.cells a vn vd), false, false⟩ :: F) :: S⟩ = some (vd) := by
  have h := kl13 (a := a) (gt0 (H := H) (S := S) (F := F) (X := Block.row ⟨72, 14, (AskR.cells a vn vd), false, false⟩))
  exact h
theorem kl13_1  : loadA Try.prog 22 (.ptr ⟨S.length + 1, 1, 13⟩) ⟨H, (B0 :: Block.row ⟨72, 14, (AskR.cells a vn vd), false, false⟩ :: F) :: S⟩ = some (vd) := by
  have h := kl13 (a := a) (gt1 (H := H) (S := S) (F := F) (X := Block.row ⟨72, 14, (AskR.cells a vn vd), false, false⟩) (B0 := B0))
  exact h
theorem kl13_2  : loadA Try.prog 22 (.ptr ⟨S.length + 1, 2, 13⟩) ⟨H, (B0 :: B1 :: Block.row ⟨72, 14, (AskR.cells a vn vd), false, false⟩ :: F) :: S⟩ = some (vd) := by
  have h := kl13 (a := a) (gt2 (H := H) (S := S) (F := F) (X := Block.row ⟨72, 14, (AskR.cells a vn vd), false, false⟩) (B0 := B0) (B1 := B1))
  exact h
theorem ks13 {x : AV} (hx : x.st = true) (hc : x.cells = [x]) (h : M'.get lv ix = some (Block.row ⟨72, 14, (AskR.cells a vn vd), false, false⟩)) : stores Try.prog 22 (.ptr ⟨lv, ix, 13⟩) (x) M' = some (.undef, M'.set lv ix (Block.row ⟨72, 14, (AskR.cells a vn x), false, false⟩)) := by
  rw [store_cell (a := ⟨lv, ix, 13⟩) (r := ⟨72, 14, (AskR.cells a vn vd), false, false⟩) ti22 (by unfold getRow; simp only [h]) rfl rfl rfl (show 13 % 14 + 1 ≤ 14 by decide) hx hc]; rfl
theorem ks13_0 {x : AV} (hx : x.st = true) (hc : x.cells = [x]) : stores Try.prog 22 (.ptr ⟨S.length + 1, 0, 13⟩) (x) ⟨H, (Block.row ⟨72, 14, (AskR.cells a vn vd), false, false⟩ :: F) :: S⟩ = some (.undef, ⟨H, (Block.row ⟨72, 14, (AskR.cells a vn x), false, false⟩ :: F) :: S⟩) := by
  have h := ks13 (a := a) (x := x) (hx := hx) (hc := hc) (gt0 (H := H) (S := S) (F := F) (X := Block.row ⟨72, 14, (AskR.cells a vn vd), false, false⟩))
  rw [sg0] at h; exact h
theorem ks13_1 {x : AV} (hx : x.st = true) (hc : x.cells = [x]) : stores Try.prog 22 (.ptr ⟨S.length + 1, 1, 13⟩) (x) ⟨H, (B0 :: Block.row ⟨72, 14, (AskR.cells a vn vd), false, false⟩ :: F) :: S⟩ = some (.undef, ⟨H, (B0 :: Block.row ⟨72, 14, (AskR.cells a vn x), false, false⟩ :: F) :: S⟩) := by
  have h := ks13 (a := a) (x := x) (hx := hx) (hc := hc) (gt1 (H := H) (S := S) (F := F) (X := Block.row ⟨72, 14, (AskR.cells a vn vd), false, false⟩) (B0 := B0))
  rw [sg1] at h; exact h
theorem ks13_2 {x : AV} (hx : x.st = true) (hc : x.cells = [x]) : stores Try.prog 22 (.ptr ⟨S.length + 1, 2, 13⟩) (x) ⟨H, (B0 :: B1 :: Block.row ⟨72, 14, (AskR.cells a vn vd), false, false⟩ :: F) :: S⟩ = some (.undef, ⟨H, (B0 :: B1 :: Block.row ⟨72, 14, (AskR.cells a vn x), false, false⟩ :: F) :: S⟩) := by
  have h := ks13 (a := a) (x := x) (hx := hx) (hc := hc) (gt2 (H := H) (S := S) (F := F) (X := Block.row ⟨72, 14, (AskR.cells a vn vd), false, false⟩) (B0 := B0) (B1 := B1))
  rw [sg2] at h; exact h
theorem kL  (h : M'.get lv ix = some (Block.row ⟨72, 14, (AskR.cells a vn vd), false, false⟩)) : loadA Try.prog 72 (.ptr ⟨lv, ix, 0⟩) M' = some (.agg (AskR.cells a vn vd)) := load_all (a := ⟨lv, ix, 0⟩) (r := ⟨72, 14, (AskR.cells a vn vd), false, false⟩) ti72 rfl (by unfold getRow; simp only [h]) rfl rfl rfl
theorem kL_0  : loadA Try.prog 72 (.ptr ⟨S.length + 1, 0, 0⟩) ⟨H, (Block.row ⟨72, 14, (AskR.cells a vn vd), false, false⟩ :: F) :: S⟩ = some (.agg (AskR.cells a vn vd)) := by
  have h := kL (a := a) (gt0 (H := H) (S := S) (F := F) (X := Block.row ⟨72, 14, (AskR.cells a vn vd), false, false⟩))
  exact h
theorem kL_1  : loadA Try.prog 72 (.ptr ⟨S.length + 1, 1, 0⟩) ⟨H, (B0 :: Block.row ⟨72, 14, (AskR.cells a vn vd), false, false⟩ :: F) :: S⟩ = some (.agg (AskR.cells a vn vd)) := by
  have h := kL (a := a) (gt1 (H := H) (S := S) (F := F) (X := Block.row ⟨72, 14, (AskR.cells a vn vd), false, false⟩) (B0 := B0))
  exact h
theorem kL_2  : loadA Try.prog 72 (.ptr ⟨S.length + 1, 2, 0⟩) ⟨H, (B0 :: B1 :: Block.row ⟨72, 14, (AskR.cells a vn vd), false, false⟩ :: F) :: S⟩ = some (.agg (AskR.cells a vn vd)) := by
  have h := kL (a := a) (gt2 (H := H) (S := S) (F := F) (X := Block.row ⟨72, 14, (AskR.cells a vn vd), false, false⟩) (B0 := B0) (B1 := B1))
  exact h
theorem kS {b : AskR} {vn' vd' : AV} (hst : (AskR.cells b vn' vd').all AV.st = true) (h : M'.get lv ix = some (Block.row ⟨72, 14, (AskR.cells a vn vd), false, false⟩)) : stores Try.prog 72 (.ptr ⟨lv, ix, 0⟩) (.agg (AskR.cells b vn' vd')) M' = some (.undef, M'.set lv ix (Block.row ⟨72, 14, (AskR.cells b vn' vd'), false, false⟩)) := by
  rw [store_all (a := ⟨lv, ix, 0⟩) (r := ⟨72, 14, (AskR.cells a vn vd), false, false⟩) ti72 (by unfold getRow; simp only [h]) rfl rfl rfl rfl rfl rfl hst]
theorem kS_0 {b : AskR} {vn' vd' : AV} (hst : (AskR.cells b vn' vd').all AV.st = true) : stores Try.prog 72 (.ptr ⟨S.length + 1, 0, 0⟩) (.agg (AskR.cells b vn' vd')) ⟨H, (Block.row ⟨72, 14, (AskR.cells a vn vd), false, false⟩ :: F) :: S⟩ = some (.undef, ⟨H, (Block.row ⟨72, 14, (AskR.cells b vn' vd'), false, false⟩ :: F) :: S⟩) := by
  have h := kS (a := a) (b := b) (vn' := vn') (vd' := vd') (hst := hst) (gt0 (H := H) (S := S) (F := F) (X := Block.row ⟨72, 14, (AskR.cells a vn vd), false, false⟩))
  rw [sg0] at h; exact h
theorem kS_1 {b : AskR} {vn' vd' : AV} (hst : (AskR.cells b vn' vd').all AV.st = true) : stores Try.prog 72 (.ptr ⟨S.length + 1, 1, 0⟩) (.agg (AskR.cells b vn' vd')) ⟨H, (B0 :: Block.row ⟨72, 14, (AskR.cells a vn vd), false, false⟩ :: F) :: S⟩ = some (.undef, ⟨H, (B0 :: Block.row ⟨72, 14, (AskR.cells b vn' vd'), false, false⟩ :: F) :: S⟩) := by
  have h := kS (a := a) (b := b) (vn' := vn') (vd' := vd') (hst := hst) (gt1 (H := H) (S := S) (F := F) (X := Block.row ⟨72, 14, (AskR.cells a vn vd), false, false⟩) (B0 := B0))
  rw [sg1] at h; exact h
theorem kS_2 {b : AskR} {vn' vd' : AV} (hst : (AskR.cells b vn' vd').all AV.st = true) : stores Try.prog 72 (.ptr ⟨S.length + 1, 2, 0⟩) (.agg (AskR.cells b vn' vd')) ⟨H, (B0 :: B1 :: Block.row ⟨72, 14, (AskR.cells a vn vd), false, false⟩ :: F) :: S⟩ = some (.undef, ⟨H, (B0 :: B1 :: Block.row ⟨72, 14, (AskR.cells b vn' vd'), false, false⟩ :: F) :: S⟩) := by
  have h := kS (a := a) (b := b) (vn' := vn') (vd' := vd') (hst := hst) (gt2 (H := H) (S := S) (F := F) (X := Block.row ⟨72, 14, (AskR.cells a vn vd), false, false⟩) (B0 := B0) (B1 := B1))
  rw [sg2] at h; exact h
theorem kboxL (hst : (AskR.cells a vn vd).all AV.st = true) : boxA Try.prog 72 false (.agg (AskR.cells a vn vd)) ⟨H, F :: S⟩ = some (.ptr ⟨S.length + 1, F.length, 0⟩, ⟨H, (F ++ [Block.row ⟨72, 14, (AskR.cells a vn vd), false, false⟩]) :: S⟩) := box_agg (P := Try.prog) (hp := false) ti72 hst rfl (by decide)
theorem kboxH (hst : (AskR.cells a vn vd).all AV.st = true) : boxA Try.prog 72 true (.agg (AskR.cells a vn vd)) ⟨H, S⟩ = some (.ptr ⟨0, H.length, 0⟩, ⟨H ++ [Block.row ⟨72, 14, (AskR.cells a vn vd), false, false⟩], S⟩) := box_agg (P := Try.prog) (hp := true) ti72 hst rfl (by decide)
theorem kallocL : allocA Try.prog 72 false ⟨H, F :: S⟩ = some (.ptr ⟨S.length + 1, F.length, 0⟩, ⟨H, (F ++ [Block.row ⟨72, 14, (AskR.cells AskR.z .nilsl .nilsl), false, false⟩]) :: S⟩) := alloc_agg (P := Try.prog) (hp := false) ti72 rfl rfl rfl (by decide)
theorem kallocH : allocA Try.prog 72 true ⟨H, S⟩ = some (.ptr ⟨0, H.length, 0⟩, ⟨H ++ [Block.row ⟨72, 14, (AskR.cells AskR.z .nilsl .nilsl), false, false⟩], S⟩) := alloc_agg (P := Try.prog) (hp := true) ti72 rfl rfl rfl (by decide)
end
section
variable {H H' : List Block} {S : List (List Block)} {M' : Mem}
theorem TH.one {v : AV} {l : List (List UInt8)} (h : TH H v l) : v.st = true ∧ v.cells = [v] := ⟨RH.st h, by rcases h with ⟨rfl, _⟩ | ⟨i, off, c, r, rfl, _⟩ <;> rfl⟩
theorem TH.nil : TH H .nilsl [] := RH.nil
theorem TH.new {v : AV} {l : List (List UInt8)} (h : TH H v l) (u : UpdH no H H') : TH H' v l := RH.new h u
theorem TH.len {v : AV} {l : List (List UInt8)} (h : TH H v l) : lenA Try.prog 70 v ⟨H, S⟩ = some (.int .i64 l.length) := len_rd (RH.rd h) ti70 rfl
theorem cells_st {a : AskR} {vn vd : AV} {nl : List (List UInt8)} {dl : List UInt8} (hn : TH H vn nl) (hd : BH H vd dl) : (a.cells vn vd).all AV.st = true := by
  simp [AskR.cells, hn.one.1, hd.one.1]; simp [AV.st, AV.lev0]
theorem at70 {v : AV} {l : List (List UInt8)} {i : Nat} (h : TH H v l) (hi : i < l.length) : indexAddrA Try.prog 70 v (.int .i64 i) ⟨H, S⟩ = some (idx v i) ∧ loadA Try.prog 9 (idx v i) ⟨H, S⟩ = some (.str l[i]) := by
  obtain ⟨h1, h2⟩ := at_idx (S := S) (kk := .i64) h ti70 rfl ti9 rfl rfl hi
  exact ⟨h1, by rw [h2, List.getElem?_map, List.getElem?_eq_getElem hi]; rfl⟩
theorem in97 {n lo hi : Int} : AC Try.prog 97 [.int .i64 n, .int .i64 lo, .int .i64 hi] ⟨H, S⟩ (fun v M' => v = .bool (decide (lo ≤ n) && decide (n ≤ hi)) ∧ M' = ⟨H, S⟩) := by
  refine AC_of_WE Try.func97 rfl ?_
  simp only [Try.ntmps97, List.length_cons, List.length_nil, List.replicate, List.cons_append, List.nil_append, mem_enter]
  (repeat refine W_seq ?_); refine W_regionT [] ?_
  simp only [go_sem]
  rcases (show lo ≤ n ∨ ¬ lo ≤ n by omega) with h | h
  · have hx : decide (lo ≤ n) = true := decide_eq_true h
    (repeat refine W_seq ?_); refine W_regionT [] ?_
    simp only [go_sem, hx]
    refine W_ret ⟨.inr rfl, _, rfl, rfl, ?_, rfl⟩
    first | rfl | (rw [hx, Bool.true_and]; rfl)
  · have hx : decide (lo ≤ n) = false := decide_eq_false h
    (repeat refine W_seq ?_); refine W_regionT [] ?_
    simp only [go_sem, hx]
    refine W_ret ⟨.inr rfl, _, rfl, rfl, ?_, rfl⟩
    first | rfl | (rw [hx]; rfl)
theorem long99 {s : List UInt8} : AC Try.prog 99 [.str s] ⟨H, S⟩ (fun v M' => v = .bool (decide (255 < s.length)) ∧ M' = ⟨H, S⟩) := by
  refine AC_of_WE Try.func99 rfl ?_
  simp only [Try.ntmps99, List.length_cons, List.length_nil, List.replicate, List.cons_append, List.nil_append, mem_enter]
  (repeat refine W_seq ?_); refine W_regionT [] ?_
  simp only [go_sem]
  (repeat refine W_seq ?_); refine W_regionT [] ?_
  simp only [go_sem]
  refine W_ret ⟨.inr rfl, _, rfl, rfl, ?_, rfl⟩
  show AV.bool (decide ((255 : Int) < (s.length : Int))) = _
  congr 1; apply decide_eq_decide.2; omega
theorem index139 {v : AV} {l : List (List UInt8)} (h : TH H v l) (hl : l.length < 1000000) : AC Try.prog 139 [v, .fn (.func 99) [] []] ⟨H, S⟩ (fun x M' => (∃ i : Int, x = .int .i64 i ∧ (decide (0 ≤ i) = l.any fun s => decide (255 < s.length))) ∧ M' = ⟨H, S⟩) := by
  refine AC_of_WE Try.func139 rfl ?_
  simp only [Try.ntmps139, List.length_cons, List.length_nil, List.replicate, List.cons_append, List.nil_append, mem_enter]
  (repeat refine W_seq ?_); refine W_regionT [] ?_
  simp only [go_sem]
  (repeat refine W_seq ?_); refine W_regionT [] ?_
  simp only [go_sem, h.len]
  (repeat refine W_seq ?_)
  refine W_block (W_loop (L_inv (fun j env M' => ∃ (x2 x3 x4 x5 x6 x9 x10 x11 x12 x13 x14 x15 x16 x17 x18 : AV) (i : Nat), env = [v, .fn (.func 99) [] [], x2, x3, x4, x5, x6, .int .i64 l.length, .int .i64 i, x9, x10, x11, x12, x13, x14, x15, x16, x17, x18] ∧ i + j = l.length ∧ M' = ⟨H, [] :: S⟩ ∧ ∀ m (hm : m < l.length), m < i → decide (255 < (l[m]'hm).length) = false) (fun j env M2 => ?_) (l.length) ?_))
  case refine_2 => exact ⟨_, _, _, _, _, _, _, _, _, _, _, _, _, _, _, 0, rfl, by omega, rfl, fun m _ h => by omega⟩
  refine exE fun x2 => exE fun x3 => exE fun x4 => exE fun x5 => exE fun x6 => exE fun x9 => exE fun x10 => exE fun x11 => exE fun x12 => exE fun x13 => exE fun x14 => exE fun x15 => exE fun x16 => exE fun x17 => exE fun x18 => ?_
  rintro ⟨i, rfl, hij, rfl, hno'⟩
  (repeat refine W_seq ?_); refine W_regionT [] ?_
  simp only [go_sem]
  (repeat refine W_seq ?_)
  refine W_cond_if rfl (fun hb => ?_) (fun hb => ?_)
  · have hi : i < l.length := by simpa using hb
    refine W_skip ?_
    simp only [go_sem]
    (repeat refine W_seq ?_)
    refine W_block ?_
    (repeat refine W_seq ?_); refine W_regionT [] ?_
    simp only [go_sem]
    have a70 := at70 (S := [] :: S) h hi
    (repeat refine W_seq ?_); refine W_regionT [] ?_
    simp only [go_sem, a70.1, a70.2]
    refine AT_call rfl rfl (long99) fun v M1 hd1 h1 => ?_
    obtain ⟨hv, hM⟩ := h1; subst hv; subst hM
    simp only [go_sem]
    (repeat refine W_seq ?_)
    refine W_cond_if rfl (fun hb => ?_) (fun hb => ?_)
    · have hlong : decide (255 < l[i].length) = true := hb
      (repeat refine W_seq ?_); refine W_regionT [] ?_
      simp only [go_sem]
      refine W_ret ⟨.inr rfl, _, rfl, rfl, ⟨_, rfl, ?_⟩, rfl⟩
      rw [decide_eq_true (show (0 : Int) ≤ (i : Int) by omega)]
      exact (List.any_eq_true.2 ⟨l[i], List.getElem_mem hi, hlong⟩).symm
    · have hshort : decide (255 < l[i].length) = false := hb
      refine W_skip ?_
      simp only [go_sem]
      (repeat refine W_seq ?_); refine W_regionT [] ?_
      simp only [go_sem, show (i : Int) + 1 = ((i + 1 : Nat) : Int) from rfl, wrap_i64 (n := ((i + 1 : Nat) : Int)) (by omega) (by omega)]
      refine ⟨j - 1, by omega, _, _, _, _, _, _, _, _, _, _, _, _, _, _, _, i + 1, rfl, by omega, trivial, fun m hm h => by
  rcases Nat.lt_or_ge m i with h2 | h2
  · exact hno' m hm h2
  · have : m = i := by omega
    subst this; exact hshort⟩
  · have hi : l.length = i := by simp at hb; omega
    have hno : ∀ m (hm : m < l.length), decide (255 < (l[m]'hm).length) = false := fun m hm => hno' m hm (by omega)
    (repeat refine W_seq ?_)
    refine W_exit ?_
    simp only [go_sem]
    (repeat refine W_seq ?_); refine W_regionT [] ?_
    simp only [go_sem]
    refine W_ret ⟨.inr rfl, _, rfl, rfl, ⟨_, rfl, ?_⟩, rfl⟩
    rw [decide_eq_false (show ¬ (0 : Int) ≤ -1 by decide)]
    symm
    rw [List.any_eq_false]
    intro s hs
    obtain ⟨m, hm⟩ := List.getElem?_of_mem hs
    obtain ⟨hml, hme⟩ := List.getElem?_eq_some_iff.1 hm
    rw [← hme, hno m hml]; decide
theorem contains98 {v : AV} {l : List (List UInt8)} (h : TH H v l) (hl : l.length < 1000000) : AC Try.prog 98 [v, .fn (.func 99) [] []] ⟨H, S⟩ (fun x M' => x = .bool (l.any fun s => decide (255 < s.length)) ∧ M' = ⟨H, S⟩) := by
  refine AC_of_WE Try.func98 rfl ?_
  simp only [Try.ntmps98, List.length_cons, List.length_nil, List.replicate, List.cons_append, List.nil_append, mem_enter]
  (repeat refine W_seq ?_); refine W_regionT [] ?_
  simp only [go_sem]
  (repeat refine W_seq ?_); refine W_regionT [] ?_
  simp only [go_sem]
  refine AT_call rfl rfl (index139 h hl) fun v M1 hd1 h1 => ?_
  obtain ⟨⟨i, rfl, hi2⟩, hM⟩ := h1; subst hM
  simp only [go_sem]
  refine W_ret ⟨.inr rfl, _, rfl, rfl, ?_, rfl⟩
  show AV.bool (decide ((0 : Int) ≤ i)) = _
  rw [hi2]
theorem equal101 {v w : AV} {l r : List (List UInt8)} (h1 : TH H v l) (h2 : TH H w r) (hl : l.length < 1000000) : AC Try.prog 101 [v, w] ⟨H, S⟩ (fun x M' => x = .bool (decide (l = r)) ∧ M' = ⟨H, S⟩) := by
  refine AC_of_WE Try.func101 rfl ?_
  simp only [Try.ntmps101, List.length_cons, List.length_nil, List.replicate, List.cons_append, List.nil_append, mem_enter]
  (repeat refine W_seq ?_); refine W_regionT [] ?_
  simp only [go_sem]
  rcases (show ¬ l.length = r.length ∨ l.length = r.length by omega) with hne | hne
  · have hc : ¬ (l.length : Int) = (r.length : Int) := by omega
    (repeat refine W_seq ?_); refine W_regionT [] ?_
    simp only [go_sem, h1.len, h2.len, hc]
    (repeat refine W_seq ?_)
    refine W_cond (b := true) rfl ?_
    simp only [if_true]
    (repeat refine W_seq ?_); refine W_regionT [] ?_
    simp only [go_sem]
    refine W_ret ⟨.inr rfl, _, rfl, rfl, ?_, rfl⟩
    rw [show decide (l = r) = false from decide_eq_false (fun h => hne (by rw [h]))]; rfl
  · have hc : (l.length : Int) = (r.length : Int) := by omega
    (repeat refine W_seq ?_); refine W_regionT [] ?_
    simp only [go_sem, h1.len, h2.len, hc]
    (repeat refine W_seq ?_)
    refine W_cond (b := false) rfl ?_
    simp only [Bool.false_eq_true, if_false]
    refine W_skip ?_
    simp only [go_sem]
    (repeat refine W_seq ?_); refine W_regionT [] ?_
    simp only [go_sem, h1.len]
    (repeat refine W_seq ?_)
    refine W_block (W_loop (L_inv (fun j env M' => ∃ (x2 x3 x4 x5 x6 x7 x8 x9 x10 x11 x14 x15 x16 x17 x18 x19 x20 x21 x22 x23 x24 x25 : AV) (i : Nat), env = [v, w, x2, x3, x4, x5, x6, x7, x8, x9, x10, x11, .int .i64 l.length, .int .i64 i, x14, x15, x16, x17, x18, x19, x20, x21, x22, x23, x24, x25] ∧ i + j = l.length ∧ M' = ⟨H, [] :: S⟩ ∧ ∀ m, m < i → l[m]? = r[m]?) (fun j env M2 => ?_) (l.length) ?_))
    case refine_2 => exact ⟨_, _, _, _, _, _, _, _, _, _, _, _, _, _, _, _, _, _, _, _, _, _, 0, rfl, by omega, rfl, fun m hm => by omega⟩
    refine exE fun x2 => exE fun x3 => exE fun x4 => exE fun x5 => exE fun x6 => exE fun x7 => exE fun x8 => exE fun x9 => exE fun x10 => exE fun x11 => exE fun x14 => exE fun x15 => exE fun x16 => exE fun x17 => exE fun x18 => exE fun x19 => exE fun x20 => exE fun x21 => exE fun x22 => exE fun x23 => exE fun x24 => exE fun x25 => ?_
    rintro ⟨i, rfl, hij, rfl, heq⟩
    (repeat refine W_seq ?_); refine W_regionT [] ?_
    simp only [go_sem]
    (repeat refine W_seq ?_)
    refine W_cond_if rfl (fun hb => ?_) (fun hb => ?_)
    · have hi : i < l.length := by simpa using hb
      refine W_skip ?_
      simp only [go_sem]
      (repeat refine W_seq ?_)
      refine W_block ?_
      (repeat refine W_seq ?_); refine W_regionT [] ?_
      simp only [go_sem]
      rcases (Classical.em (l[i] = (r[i]'(by omega)))) with hx | hx
      · have hx' : (l[i] == (r[i]'(by omega))) = true := by simpa using hx
        have heq' : ∀ m, m < i + 1 → l[m]? = r[m]? := fun m hm => by
          rcases Nat.lt_or_ge m i with h | h
          · exact heq m h
          · have : m = i := by omega
            subst this
            rw [List.getElem?_eq_getElem hi, List.getElem?_eq_getElem (show m < r.length by omega), hx]
        have hir : i < r.length := by omega
        have a1 := at70 (S := [] :: S) h1 hi
        have a2 := at70 (S := [] :: S) h2 hir
        (repeat refine W_seq ?_); refine W_regionC [] [] [0, 1, 2, 3, 4, 5, 6, 7, 8] [0, 0, 3, 7, 0, 0, 48, 112, 255] mixedM (by kernel_rfl) (by kernel_rfl) (by kernel_rfl) (by kernel_rfl) ?_
        simp only [listed, go_sem, a1.1, a1.2, a2.1, a2.2, hx', List.map_cons, List.map_nil]
        (repeat refine W_seq ?_)
        refine W_cond (b := false) rfl ?_
        simp only [Bool.false_eq_true, if_false]
        refine W_skip ?_
        simp only [go_sem]
        (repeat refine W_seq ?_); refine W_regionT [] ?_
        simp only [go_sem, show (i : Int) + 1 = ((i + 1 : Nat) : Int) from rfl, wrap_i64 (n := ((i + 1 : Nat) : Int)) (by omega) (by omega)]
        refine ⟨j - 1, by omega, _, _, _, _, _, _, _, _, _, _, _, _, _, _, _, _, _, _, _, _, _, _, i + 1, rfl, by omega, trivial, heq'⟩
      · have hx' : (l[i] == (r[i]'(by omega))) = false := by simpa using hx
        have hir : i < r.length := by omega
        have a1 := at70 (S := [] :: S) h1 hi
        have a2 := at70 (S := [] :: S) h2 hir
        (repeat refine W_seq ?_); refine W_regionC [] [] [0, 1, 2, 3, 4, 5, 6, 7, 8] [0, 0, 3, 7, 0, 0, 48, 112, 255] mixedM (by kernel_rfl) (by kernel_rfl) (by kernel_rfl) (by kernel_rfl) ?_
        simp only [listed, go_sem, a1.1, a1.2, a2.1, a2.2, hx', List.map_cons, List.map_nil]
        (repeat refine W_seq ?_)
        refine W_cond (b := true) rfl ?_
        simp only [if_true]
        (repeat refine W_seq ?_); refine W_regionT [] ?_
        simp only [go_sem]
        refine W_ret ⟨.inr rfl, _, rfl, rfl, ?_, rfl⟩
        rw [show decide (l = r) = false from decide_eq_false (fun h => hx (by subst h; rfl))]; rfl
    · have hi : l.length = i := by simp at hb; omega
      rw [← hi] at heq
      (repeat refine W_seq ?_)
      refine W_exit ?_
      simp only [go_sem]
      (repeat refine W_seq ?_); refine W_regionT [] ?_
      simp only [go_sem]
      refine W_ret ⟨.inr rfl, _, rfl, rfl, ?_, rfl⟩
      rw [show decide (l = r) = true from decide_eq_true ?_]; rfl
      apply List.ext_getElem?
      intro m
      rcases Nat.lt_or_ge m l.length with hm | hm
      · exact heq m hm
      · rw [List.getElem?_eq_none hm, List.getElem?_eq_none (by omega)]
theorem same_eq {a b : AskR} : decide (a = b) = ((decide (a.ty = b.ty) && decide (a.tag = b.tag) && decide (a.fid = b.fid) && decide (a.newfid = b.newfid) && decide (a.oldtag = b.oldtag) && decide (a.msize = b.msize)) && (decide (a.mode = b.mode) && decide (a.perm = b.perm) && decide (a.off = b.off) && decide (a.count = b.count) && decide (a.size = b.size)) && (a.name == b.name) && decide (a.names = b.names) && (a.data == b.data)) := by
  obtain ⟨a0, a1, a2, a3, a4, a5, a6, a7, a8, a9, a10, a11, a12, a13⟩ := a
  obtain ⟨b0, b1, b2, b3, b4, b5, b6, b7, b8, b9, b10, b11, b12, b13⟩ := b
  rw [Bool.eq_iff_iff]
  simp only [Bool.and_eq_true, decide_eq_true_eq, beq_iff_eq, AskR.mk.injEq]
  exact ⟨fun ⟨h0, h1, h2, h3, h4, h5, h6, h7, h8, h9, h10, h11, h12, h13⟩ => ⟨⟨⟨⟨⟨⟨⟨⟨⟨h0, h1⟩, h2⟩, h3⟩, h4⟩, h5⟩, ⟨⟨⟨h6, h7⟩, h8⟩, h9⟩, h12⟩, h10⟩, h11⟩, h13⟩, fun ⟨⟨⟨⟨⟨⟨⟨⟨⟨h0, h1⟩, h2⟩, h3⟩, h4⟩, h5⟩, ⟨⟨⟨h6, h7⟩, h8⟩, h9⟩, h12⟩, h10⟩, h11⟩, h13⟩ => ⟨h0, h1, h2, h3, h4, h5, h6, h7, h8, h9, h10, h11, h12, h13⟩⟩
theorem same58 {v w : AV} {a b : AskR} (ha : AskV H v a) (hb0 : AskV H w b) (hl : a.names.length < 1000000) : AC Try.prog 58 [v, w] ⟨H, S⟩ (fun x M' => x = .bool (decide (a = b)) ∧ M' = ⟨H, S⟩) := by
  refine AC_of_WE Try.func58 rfl ?_
  simp only [Try.ntmps58, List.length_cons, List.length_nil, List.replicate, List.cons_append, List.nil_append, mem_enter]
  obtain ⟨vn, vd, rfl, hn, hd⟩ := ha
  obtain ⟨wn, wd, rfl, hn2, hd2⟩ := hb0
  have st1 := cells_st (a := a) hn hd
  have st2 := cells_st (a := b) hn2 hd2
  (repeat refine W_seq ?_); refine W_regionT [] ?_
  simp only [go_sem, kboxL st1, kboxL st2, List.nil_append, List.cons_append, List.length_nil, List.length_cons, Nat.zero_add, Nat.reduceAdd]
  (repeat refine W_seq ?_)
  refine W_mid (fun env M' => ∃ (x4 x6 x7 x8 x9 x10 x11 x12 x13 x14 x15 x16 x17 x18 x19 x20 x21 x22 x23 x24 x25 x26 x27 x28 x29 x30 x31 x32 x33 x34 x35 x36 x37 x38 x39 x40 x41 x42 x43 x44 x45 x46 x47 x48 x49 x50 x51 x52 x53 x54 x55 x56 x57 x58 x59 x60 x61 x62 x63 x64 x65 x66 x67 x68 x69 x70 x71 x72 x73 x74 x75 x76 x77 x78 x79 x80 x81 x82 x83 x84 x85 x86 x87 x88 x89 x90 x91 x92 x93 x94 x95 x96 x97 x98 x99 x100 x101 x102 x103 x104 : AV) (p : Bool), env = [.agg (a.cells vn vd), .agg (b.cells wn wd), .ptr ⟨S.length + 1, 0, 0⟩, .ptr ⟨S.length + 1, 1, 0⟩, x4, .bool p, x6, x7, x8, x9, x10, x11, x12, x13, x14, x15, x16, x17, x18, x19, x20, x21, x22, x23, x24, x25, x26, x27, x28, x29, x30, x31, x32, x33, x34, x35, x36, x37, x38, x39, x40, x41, x42, x43, x44, x45, x46, x47, x48, x49, x50, x51, x52, x53, x54, x55, x56, x57, x58, x59, x60, x61, x62, x63, x64, x65, x66, x67, x68, x69, x70, x71, x72, x73, x74, x75, x76, x77, x78, x79, x80, x81, x82, x83, x84, x85, x86, x87, x88, x89, x90, x91, x92, x93, x94, x95, x96, x97, x98, x99, x100, x101, x102, x103, x104] ∧ p = (decide (a.ty = b.ty) && decide (a.tag = b.tag) && decide (a.fid = b.fid) && decide (a.newfid = b.newfid) && decide (a.oldtag = b.oldtag) && decide (a.msize = b.msize)) ∧ M' = ⟨H, [.row ⟨72, 14, a.cells vn vd, false, false⟩, .row ⟨72, 14, b.cells wn wd, false, false⟩] :: S⟩) ?_ ?_
  · rcases ff6 (decide (a.ty = b.ty)) (decide (a.tag = b.tag)) (decide (a.fid = b.fid)) (decide (a.newfid = b.newfid)) (decide (a.oldtag = b.oldtag)) (decide (a.msize = b.msize)) with Q | Q | Q | Q | Q | Q | Q
    · (repeat refine W_seq ?_); refine W_regionT [] ?_
      simp (maxSteps := 1000000) only [go_sem, Q, ka0_0, ka1_0, ka2_0, ka3_0, ka4_0, ka5_0, ka6_0, ka7_0, ka8_0, ka9_0, ka10_0, ka11_0, ka12_0, ka13_0, kl0_0, kl1_0, kl2_0, kl3_0, kl4_0, kl5_0, kl6_0, kl7_0, kl8_0, kl9_0, kl10_0, kl11_0, kl12_0, kl13_0, kL_0, ka0_1, ka1_1, ka2_1, ka3_1, ka4_1, ka5_1, ka6_1, ka7_1, ka8_1, ka9_1, ka10_1, ka11_1, ka12_1, ka13_1, kl0_1, kl1_1, kl2_1, kl3_1, kl4_1, kl5_1, kl6_1, kl7_1, kl8_1, kl9_1, kl10_1, kl11_1, kl12_1, kl13_1, kL_1]
      exact ⟨_, _, _, _, _, _, _, _, _, _, _, _, _, _, _, _, _, _, _, _, _, _, _, _, _, _, _, _, _, _, _, _, _, _, _, _, _, _, _, _, _, _, _, _, _, _, _, _, _, _, _, _, _, _, _, _, _, _, _, _, _, _, _, _, _, _, _, _, _, _, _, _, _, _, _, _, _, _, _, _, _, _, _, _, _, _, _, _, _, _, _, _, _, _, _, _, _, _, _, _, _, rfl, by simp only [Q, Bool.and_true, Bool.true_and, Bool.false_and, Bool.and_false], rfl⟩
    · (repeat refine W_seq ?_); refine W_regionT [] ?_
      simp (maxSteps := 1000000) only [go_sem, Q, ka0_0, ka1_0, ka2_0, ka3_0, ka4_0, ka5_0, ka6_0, ka7_0, ka8_0, ka9_0, ka10_0, ka11_0, ka12_0, ka13_0, kl0_0, kl1_0, kl2_0, kl3_0, kl4_0, kl5_0, kl6_0, kl7_0, kl8_0, kl9_0, kl10_0, kl11_0, kl12_0, kl13_0, kL_0, ka0_1, ka1_1, ka2_1, ka3_1, ka4_1, ka5_1, ka6_1, ka7_1, ka8_1, ka9_1, ka10_1, ka11_1, ka12_1, ka13_1, kl0_1, kl1_1, kl2_1, kl3_1, kl4_1, kl5_1, kl6_1, kl7_1, kl8_1, kl9_1, kl10_1, kl11_1, kl12_1, kl13_1, kL_1]
      exact ⟨_, _, _, _, _, _, _, _, _, _, _, _, _, _, _, _, _, _, _, _, _, _, _, _, _, _, _, _, _, _, _, _, _, _, _, _, _, _, _, _, _, _, _, _, _, _, _, _, _, _, _, _, _, _, _, _, _, _, _, _, _, _, _, _, _, _, _, _, _, _, _, _, _, _, _, _, _, _, _, _, _, _, _, _, _, _, _, _, _, _, _, _, _, _, _, _, _, _, _, _, _, rfl, by simp only [Q, Bool.and_true, Bool.true_and, Bool.false_and, Bool.and_false], rfl⟩
    · (repeat refine W_seq ?_); refine W_regionT [] ?_
      simp (maxSteps := 1000000) only [go_sem, Q, ka0_0, ka1_0, ka2_0, ka3_0, ka4_0, ka5_0, ka6_0, ka7_0, ka8_0, ka9_0, ka10_0, ka11_0, ka12_0, ka13_0, kl0_0, kl1_0, kl2_0, kl3_0, kl4_0, kl5_0, kl6_0, kl7_0, kl8_0, kl9_0, kl10_0, kl11_0, kl12_0, kl13_0, kL_0, ka0_1, ka1_1, ka2_1, ka3_1, ka4_1, ka5_1, ka6_1, ka7_1, ka8_1, ka9_1, ka10_1, ka11_1, ka12_1, ka13_1, kl0_1, kl1_1, kl2_1, kl3_1, kl4_1, kl5_1, kl6_1, kl7_1, kl8_1, kl9_1, kl10_1, kl11_1, kl12_1, kl13_1, kL_1]
      exact ⟨_, _, _, _, _, _, _, _, _, _, _, _, _, _, _, _, _, _, _, _, _, _, _, _, _, _, _, _, _, _, _, _, _, _, _, _, _, _, _, _, _, _, _, _, _, _, _, _, _, _, _, _, _, _, _, _, _, _, _, _, _, _, _, _, _, _, _, _, _, _, _, _, _, _, _, _, _, _, _, _, _, _, _, _, _, _, _, _, _, _, _, _, _, _, _, _, _, _, _, _, _, rfl, by simp only [Q, Bool.and_true, Bool.true_and, Bool.false_and, Bool.and_false], rfl⟩
    · (repeat refine W_seq ?_); refine W_regionT [] ?_
      simp (maxSteps := 1000000) only [go_sem, Q, ka0_0, ka1_0, ka2_0, ka3_0, ka4_0, ka5_0, ka6_0, ka7_0, ka8_0, ka9_0, ka10_0, ka11_0, ka12_0, ka13_0, kl0_0, kl1_0, kl2_0, kl3_0, kl4_0, kl5_0, kl6_0, kl7_0, kl8_0, kl9_0, kl10_0, kl11_0, kl12_0, kl13_0, kL_0, ka0_1, ka1_1, ka2_1, ka3_1, ka4_1, ka5_1, ka6_1, ka7_1, ka8_1, ka9_1, ka10_1, ka11_1, ka12_1, ka13_1, kl0_1, kl1_1, kl2_1, kl3_1, kl4_1, kl5_1, kl6_1, kl7_1, kl8_1, kl9_1, kl10_1, kl11_1, kl12_1, kl13_1, kL_1]
      exact ⟨_, _, _, _, _, _, _, _, _, _, _, _, _, _, _, _, _, _, _, _, _, _, _, _, _, _, _, _, _, _, _, _, _, _, _, _, _, _, _, _, _, _, _, _, _, _, _, _, _, _, _, _, _, _, _, _, _, _, _, _, _, _, _, _, _, _, _, _, _, _, _, _, _, _, _, _, _, _, _, _, _, _, _, _, _, _, _, _, _, _, _, _, _, _, _, _, _, _, _, _, _, rfl, by simp only [Q, Bool.and_true, Bool.true_and, Bool.false_and, Bool.and_false], rfl⟩
    · (repeat refine W_seq ?_); refine W_regionT [] ?_
      simp (maxSteps := 1000000) only [go_sem, Q, ka0_0, ka1_0, ka2_0, ka3_0, ka4_0, ka5_0, ka6_0, ka7_0, ka8_0, ka9_0, ka10_0, ka11_0, ka12_0, ka13_0, kl0_0, kl1_0, kl2_0, kl3_0, kl4_0, kl5_0, kl6_0, kl7_0, kl8_0, kl9_0, kl10_0, kl11_0, kl12_0, kl13_0, kL_0, ka0_1, ka1_1, ka2_1, ka3_1, ka4_1, ka5_1, ka6_1, ka7_1, ka8_1, ka9_1, ka10_1, ka11_1, ka12_1, ka13_1, kl0_1, kl1_1, kl2_1, kl3_1, kl4_1, kl5_1, kl6_1, kl7_1, kl8_1, kl9_1, kl10_1, kl11_1, kl12_1, kl13_1, kL_1]
      exact ⟨_, _, _, _, _, _, _, _, _, _, _, _, _, _, _, _, _, _, _, _, _, _, _, _, _, _, _, _, _, _, _, _, _, _, _, _, _, _, _, _, _, _, _, _, _, _, _, _, _, _, _, _, _, _, _, _, _, _, _, _, _, _, _, _, _, _, _, _, _, _, _, _, _, _, _, _, _, _, _, _, _, _, _, _, _, _, _, _, _, _, _, _, _, _, _, _, _, _, _, _, _, rfl, by simp only [Q, Bool.and_true, Bool.true_and, Bool.false_and, Bool.and_false], rfl⟩
    · (repeat refine W_seq ?_); refine W_regionT [] ?_
      simp (maxSteps := 1000000) only [go_sem, Q, ka0_0, ka1_0, ka2_0, ka3_0, ka4_0, ka5_0, ka6_0, ka7_0, ka8_0, ka9_0, ka10_0, ka11_0, ka12_0, ka13_0, kl0_0, kl1_0, kl2_0, kl3_0, kl4_0, kl5_0, kl6_0, kl7_0, kl8_0, kl9_0, kl10_0, kl11_0, kl12_0, kl13_0, kL_0, ka0_1, ka1_1, ka2_1, ka3_1, ka4_1, ka5_1, ka6_1, ka7_1, ka8_1, ka9_1, ka10_1, ka11_1, ka12_1, ka13_1, kl0_1, kl1_1, kl2_1, kl3_1, kl4_1, kl5_1, kl6_1, kl7_1, kl8_1, kl9_1, kl10_1, kl11_1, kl12_1, kl13_1, kL_1]
      exact ⟨_, _, _, _, _, _, _, _, _, _, _, _, _, _, _, _, _, _, _, _, _, _, _, _, _, _, _, _, _, _, _, _, _, _, _, _, _, _, _, _, _, _, _, _, _, _, _, _, _, _, _, _, _, _, _, _, _, _, _, _, _, _, _, _, _, _, _, _, _, _, _, _, _, _, _, _, _, _, _, _, _, _, _, _, _, _, _, _, _, _, _, _, _, _, _, _, _, _, _, _, _, rfl, by simp only [Q, Bool.and_true, Bool.true_and, Bool.false_and, Bool.and_false], rfl⟩
    · (repeat refine W_seq ?_); refine W_regionT [] ?_
      simp (maxSteps := 1000000) only [go_sem, Q, ka0_0, ka1_0, ka2_0, ka3_0, ka4_0, ka5_0, ka6_0, ka7_0, ka8_0, ka9_0, ka10_0, ka11_0, ka12_0, ka13_0, kl0_0, kl1_0, kl2_0, kl3_0, kl4_0, kl5_0, kl6_0, kl7_0, kl8_0, kl9_0, kl10_0, kl11_0, kl12_0, kl13_0, kL_0, ka0_1, ka1_1, ka2_1, ka3_1, ka4_1, ka5_1, ka6_1, ka7_1, ka8_1, ka9_1, ka10_1, ka11_1, ka12_1, ka13_1, kl0_1, kl1_1, kl2_1, kl3_1, kl4_1, kl5_1, kl6_1, kl7_1, kl8_1, kl9_1, kl10_1, kl11_1, kl12_1, kl13_1, kL_1]
      exact ⟨_, _, _, _, _, _, _, _, _, _, _, _, _, _, _, _, _, _, _, _, _, _, _, _, _, _, _, _, _, _, _, _, _, _, _, _, _, _, _, _, _, _, _, _, _, _, _, _, _, _, _, _, _, _, _, _, _, _, _, _, _, _, _, _, _, _, _, _, _, _, _, _, _, _, _, _, _, _, _, _, _, _, _, _, _, _, _, _, _, _, _, _, _, _, _, _, _, _, _, _, _, rfl, by simp only [Q, Bool.and_true, Bool.true_and, Bool.false_and, Bool.and_false], rfl⟩
  refine fun env M' => ?_
  refine exE fun x4 => exE fun x6 => exE fun x7 => exE fun x8 => exE fun x9 => exE fun x10 => exE fun x11 => exE fun x12 => exE fun x13 => exE fun x14 => exE fun x15 => exE fun x16 => exE fun x17 => exE fun x18 => exE fun x19 => exE fun x20 => exE fun x21 => exE fun x22 => exE fun x23 => exE fun x24 => exE fun x25 => exE fun x26 => exE fun x27 => exE fun x28 => exE fun x29 => exE fun x30 => exE fun x31 => exE fun x32 => exE fun x33 => exE fun x34 => exE fun x35 => exE fun x36 => exE fun x37 => exE fun x38 => exE fun x39 => exE fun x40 => exE fun x41 => exE fun x42 => exE fun x43 => exE fun x44 => exE fun x45 => exE fun x46 => exE fun x47 => exE fun x48 => exE fun x49 => exE fun x50 => exE fun x51 => exE fun x52 => exE fun x53 => exE fun x54 => exE fun x55 => exE fun x56 => exE fun x57 => exE fun x58 => exE fun x59 => exE fun x60 => exE fun x61 => exE fun x62 => exE fun x63 => exE fun x64 => exE fun x65 => exE fun x66 => exE fun x67 => exE fun x68 => exE fun x69 => exE fun x70 => exE fun x71 => exE fun x72 => exE fun x73 => exE fun x74 => exE fun x75 => exE fun x76 => exE fun x77 => exE fun x78 => exE fun x79 => exE fun x80 => exE fun x81 => exE fun x82 => exE fun x83 => exE fun x84 => exE fun x85 => exE fun x86 => exE fun x87 => exE fun x88 => exE fun x89 => exE fun x90 => exE fun x91 => exE fun x92 => exE fun x93 => exE fun x94 => exE fun x95 => exE fun x96 => exE fun x97 => exE fun x98 => exE fun x99 => exE fun x100 => exE fun x101 => exE fun x102 => exE fun x103 => exE fun x104 => ?_
  rintro ⟨p, rfl, hp1, rfl⟩
  (repeat refine W_seq ?_)
  refine W_mid (fun env M' => ∃ (y4 y7 y8 y9 y10 y11 y12 y13 y14 y15 y16 y17 y18 y19 y20 y21 y22 y23 y24 y25 y26 y27 y28 y29 y30 y31 y32 y33 y34 y35 y36 y37 y38 y39 y40 y41 y42 y43 y44 y45 y46 y47 y48 y49 y50 y51 y52 y53 y54 y55 y56 y57 y58 y59 y60 y61 y62 y63 y64 y65 y66 y67 y68 y69 y70 y71 y72 y73 y74 y75 y76 y77 y78 y79 y80 y81 y82 y83 y84 y85 y86 y87 y88 y89 y90 y91 y92 y93 y94 y95 y96 y97 y98 y99 y100 y101 y102 y103 y104 : AV) (p2 : Bool), env = [.agg (a.cells vn vd), .agg (b.cells wn wd), .ptr ⟨S.length + 1, 0, 0⟩, .ptr ⟨S.length + 1, 1, 0⟩, y4, .bool p, .bool p2, y7, y8, y9, y10, y11, y12, y13, y14, y15, y16, y17, y18, y19, y20, y21, y22, y23, y24, y25, y26, y27, y28, y29, y30, y31, y32, y33, y34, y35, y36, y37, y38, y39, y40, y41, y42, y43, y44, y45, y46, y47, y48, y49, y50, y51, y52, y53, y54, y55, y56, y57, y58, y59, y60, y61, y62, y63, y64, y65, y66, y67, y68, y69, y70, y71, y72, y73, y74, y75, y76, y77, y78, y79, y80, y81, y82, y83, y84, y85, y86, y87, y88, y89, y90, y91, y92, y93, y94, y95, y96, y97, y98, y99, y100, y101, y102, y103, y104] ∧ p2 = (decide (a.mode = b.mode) && decide (a.perm = b.perm) && decide (a.off = b.off) && decide (a.count = b.count) && decide (a.size = b.size)) ∧ M' = ⟨H, [.row ⟨72, 14, a.cells vn vd, false, false⟩, .row ⟨72, 14, b.cells wn wd, false, false⟩] :: S⟩) ?_ ?_
  · rcases ff5 (decide (a.mode = b.mode)) (decide (a.perm = b.perm)) (decide (a.off = b.off)) (decide (a.count = b.count)) (decide (a.size = b.size)) with Q | Q | Q | Q | Q | Q
    · (repeat refine W_seq ?_); refine W_regionT [] ?_
      simp (maxSteps := 1000000) only [go_sem, Q, ka0_0, ka1_0, ka2_0, ka3_0, ka4_0, ka5_0, ka6_0, ka7_0, ka8_0, ka9_0, ka10_0, ka11_0, ka12_0, ka13_0, kl0_0, kl1_0, kl2_0, kl3_0, kl4_0, kl5_0, kl6_0, kl7_0, kl8_0, kl9_0, kl10_0, kl11_0, kl12_0, kl13_0, kL_0, ka0_1, ka1_1, ka2_1, ka3_1, ka4_1, ka5_1, ka6_1, ka7_1, ka8_1, ka9_1, ka10_1, ka11_1, ka12_1, ka13_1, kl0_1, kl1_1, kl2_1, kl3_1, kl4_1, kl5_1, kl6_1, kl7_1, kl8_1, kl9_1, kl10_1, kl11_1, kl12_1, kl13_1, kL_1]
      exact ⟨_, _, _, _, _, _, _, _, _, _, _, _, _, _, _, _, _, _, _, _, _, _, _, _, _, _, _, _, _, _, _, _, _, _, _, _, _, _, _, _, _, _, _, _, _, _, _, _, _, _, _, _, _, _, _, _, _, _, _, _, _, _, _, _, _, _, _, _, _, _, _, _, _, _, _, _, _, _, _, _, _, _, _, _, _, _, _, _, _, _, _, _, _, _, _, _, _, _, _, _, rfl, by simp only [Q, Bool.and_true, Bool.true_and, Bool.false_and, Bool.and_false], rfl⟩
    · (repeat refine W_seq ?_); refine W_regionT [] ?_
      simp (maxSteps := 1000000) only [go_sem, Q, ka0_0, ka1_0, ka2_0, ka3_0, ka4_0, ka5_0, ka6_0, ka7_0, ka8_0, ka9_0, ka10_0, ka11_0, ka12_0, ka13_0, kl0_0, kl1_0, kl2_0, kl3_0, kl4_0, kl5_0, kl6_0, kl7_0, kl8_0, kl9_0, kl10_0, kl11_0, kl12_0, kl13_0, kL_0, ka0_1, ka1_1, ka2_1, ka3_1, ka4_1, ka5_1, ka6_1, ka7_1, ka8_1, ka9_1, ka10_1, ka11_1, ka12_1, ka13_1, kl0_1, kl1_1, kl2_1, kl3_1, kl4_1, kl5_1, kl6_1, kl7_1, kl8_1, kl9_1, kl10_1, kl11_1, kl12_1, kl13_1, kL_1]
      exact ⟨_, _, _, _, _, _, _, _, _, _, _, _, _, _, _, _, _, _, _, _, _, _, _, _, _, _, _, _, _, _, _, _, _, _, _, _, _, _, _, _, _, _, _, _, _, _, _, _, _, _, _, _, _, _, _, _, _, _, _, _, _, _, _, _, _, _, _, _, _, _, _, _, _, _, _, _, _, _, _, _, _, _, _, _, _, _, _, _, _, _, _, _, _, _, _, _, _, _, _, _, rfl, by simp only [Q, Bool.and_true, Bool.true_and, Bool.false_and, Bool.and_false], rfl⟩
    · (repeat refine W_seq ?_); refine W_regionT [] ?_
      simp (maxSteps := 1000000) only [go_sem, Q, ka0_0, ka1_0, ka2_0, ka3_0, ka4_0, ka5_0, ka6_0, ka7_0, ka8_0, ka9_0, ka10_0, ka11_0, ka12_0, ka13_0, kl0_0, kl1_0, kl2_0, kl3_0, kl4_0, kl5_0, kl6_0, kl7_0, kl8_0, kl9_0, kl10_0, kl11_0, kl12_0, kl13_0, kL_0, ka0_1, ka1_1, ka2_1, ka3_1, ka4_1, ka5_1, ka6_1, ka7_1, ka8_1, ka9_1, ka10_1, ka11_1, ka12_1, ka13_1, kl0_1, kl1_1, kl2_1, kl3_1, kl4_1, kl5_1, kl6_1, kl7_1, kl8_1, kl9_1, kl10_1, kl11_1, kl12_1, kl13_1, kL_1]
      exact ⟨_, _, _, _, _, _, _, _, _, _, _, _, _, _, _, _, _, _, _, _, _, _, _, _, _, _, _, _, _, _, _, _, _, _, _, _, _, _, _, _, _, _, _, _, _, _, _, _, _, _, _, _, _, _, _, _, _, _, _, _, _, _, _, _, _, _, _, _, _, _, _, _, _, _, _, _, _, _, _, _, _, _, _, _, _, _, _, _, _, _, _, _, _, _, _, _, _, _, _, _, rfl, by simp only [Q, Bool.and_true, Bool.true_and, Bool.false_and, Bool.and_false], rfl⟩
    · (repeat refine W_seq ?_); refine W_regionT [] ?_
      simp (maxSteps := 1000000) only [go_sem, Q, ka0_0, ka1_0, ka2_0, ka3_0, ka4_0, ka5_0, ka6_0, ka7_0, ka8_0, ka9_0, ka10_0, ka11_0, ka12_0, ka13_0, kl0_0, kl1_0, kl2_0, kl3_0, kl4_0, kl5_0, kl6_0, kl7_0, kl8_0, kl9_0, kl10_0, kl11_0, kl12_0, kl13_0, kL_0, ka0_1, ka1_1, ka2_1, ka3_1, ka4_1, ka5_1, ka6_1, ka7_1, ka8_1, ka9_1, ka10_1, ka11_1, ka12_1, ka13_1, kl0_1, kl1_1, kl2_1, kl3_1, kl4_1, kl5_1, kl6_1, kl7_1, kl8_1, kl9_1, kl10_1, kl11_1, kl12_1, kl13_1, kL_1]
      exact ⟨_, _, _, _, _, _, _, _, _, _, _, _, _, _, _, _, _, _, _, _, _, _, _, _, _, _, _, _, _, _, _, _, _, _, _, _, _, _, _, _, _, _, _, _, _, _, _, _, _, _, _, _, _, _, _, _, _, _, _, _, _, _, _, _, _, _, _, _, _, _, _, _, _, _, _, _, _, _, _, _, _, _, _, _, _, _, _, _, _, _, _, _, _, _, _, _, _, _, _, _, rfl, by simp only [Q, Bool.and_true, Bool.true_and, Bool.false_and, Bool.and_false], rfl⟩
    · (repeat refine W_seq ?_); refine W_regionT [] ?_
      simp (maxSteps := 1000000) only [go_sem, Q, ka0_0, ka1_0, ka2_0, ka3_0, ka4_0, ka5_0, ka6_0, ka7_0, ka8_0, ka9_0, ka10_0, ka11_0, ka12_0, ka13_0, kl0_0, kl1_0, kl2_0, kl3_0, kl4_0, kl5_0, kl6_0, kl7_0, kl8_0, kl9_0, kl10_0, kl11_0, kl12_0, kl13_0, kL_0, ka0_1, ka1_1, ka2_1, ka3_1, ka4_1, ka5_1, ka6_1, ka7_1, ka8_1, ka9_1, ka10_1, ka11_1, ka12_1, ka13_1, kl0_1, kl1_1, kl2_1, kl3_1, kl4_1, kl5_1, kl6_1, kl7_1, kl8_1, kl9_1, kl10_1, kl11_1, kl12_1, kl13_1, kL_1]
      exact ⟨_, _, _, _, _, _, _, _, _, _, _, _, _, _, _, _, _, _, _, _, _, _, _, _, _, _, _, _, _, _, _, _, _, _, _, _, _, _, _, _, _, _, _, _, _, _, _, _, _, _, _, _, _, _, _, _, _, _, _, _, _, _, _, _, _, _, _, _, _, _, _, _, _, _, _, _, _, _, _, _, _, _, _, _, _, _, _, _, _, _, _, _, _, _, _, _, _, _, _, _, rfl, by simp only [Q, Bool.and_true, Bool.true_and, Bool.false_and, Bool.and_false], rfl⟩
    · (repeat refine W_seq ?_); refine W_regionT [] ?_
      simp (maxSteps := 1000000) only [go_sem, Q, ka0_0, ka1_0, ka2_0, ka3_0, ka4_0, ka5_0, ka6_0, ka7_0, ka8_0, ka9_0, ka10_0, ka11_0, ka12_0, ka13_0, kl0_0, kl1_0, kl2_0, kl3_0, kl4_0, kl5_0, kl6_0, kl7_0, kl8_0, kl9_0, kl10_0, kl11_0, kl12_0, kl13_0, kL_0, ka0_1, ka1_1, ka2_1, ka3_1, ka4_1, ka5_1, ka6_1, ka7_1, ka8_1, ka9_1, ka10_1, ka11_1, ka12_1, ka13_1, kl0_1, kl1_1, kl2_1, kl3_1, kl4_1, kl5_1, kl6_1, kl7_1, kl8_1, kl9_1, kl10_1, kl11_1, kl12_1, kl13_1, kL_1]
      exact ⟨_, _, _, _, _, _, _, _, _, _, _, _, _, _, _, _, _, _, _, _, _, _, _, _, _, _, _, _, _, _, _, _, _, _, _, _, _, _, _, _, _, _, _, _, _, _, _, _, _, _, _, _, _, _, _, _, _, _, _, _, _, _, _, _, _, _, _, _, _, _, _, _, _, _, _, _, _, _, _, _, _, _, _, _, _, _, _, _, _, _, _, _, _, _, _, _, _, _, _, _, rfl, by simp only [Q, Bool.and_true, Bool.true_and, Bool.false_and, Bool.and_false], rfl⟩
  refine fun env M' => ?_
  refine exE fun y4 => exE fun y7 => exE fun y8 => exE fun y9 => exE fun y10 => exE fun y11 => exE fun y12 => exE fun y13 => exE fun y14 => exE fun y15 => exE fun y16 => exE fun y17 => exE fun y18 => exE fun y19 => exE fun y20 => exE fun y21 => exE fun y22 => exE fun y23 => exE fun y24 => exE fun y25 => exE fun y26 => exE fun y27 => exE fun y28 => exE fun y29 => exE fun y30 => exE fun y31 => exE fun y32 => exE fun y33 => exE fun y34 => exE fun y35 => exE fun y36 => exE fun y37 => exE fun y38 => exE fun y39 => exE fun y40 => exE fun y41 => exE fun y42 => exE fun y43 => exE fun y44 => exE fun y45 => exE fun y46 => exE fun y47 => exE fun y48 => exE fun y49 => exE fun y50 => exE fun y51 => exE fun y52 => exE fun y53 => exE fun y54 => exE fun y55 => exE fun y56 => exE fun y57 => exE fun y58 => exE fun y59 => exE fun y60 => exE fun y61 => exE fun y62 => exE fun y63 => exE fun y64 => exE fun y65 => exE fun y66 => exE fun y67 => exE fun y68 => exE fun y69 => exE fun y70 => exE fun y71 => exE fun y72 => exE fun y73 => exE fun y74 => exE fun y75 => exE fun y76 => exE fun y77 => exE fun y78 => exE fun y79 => exE fun y80 => exE fun y81 => exE fun y82 => exE fun y83 => exE fun y84 => exE fun y85 => exE fun y86 => exE fun y87 => exE fun y88 => exE fun y89 => exE fun y90 => exE fun y91 => exE fun y92 => exE fun y93 => exE fun y94 => exE fun y95 => exE fun y96 => exE fun y97 => exE fun y98 => exE fun y99 => exE fun y100 => exE fun y101 => exE fun y102 => exE fun y103 => exE fun y104 => ?_
  rintro ⟨p2, rfl, hp2, rfl⟩
  rcases ff5 (p) (p2) ((a.name == b.name)) (decide (a.names = b.names)) ((a.data == b.data)) with Q | Q | Q | Q | Q | Q
  · (repeat refine W_seq ?_); refine W_regionT [] ?_
    simp (maxSteps := 1000000) only [go_sem, Q, ka0_0, ka1_0, ka2_0, ka3_0, ka4_0, ka5_0, ka6_0, ka7_0, ka8_0, ka9_0, ka10_0, ka11_0, ka12_0, ka13_0, kl0_0, kl1_0, kl2_0, kl3_0, kl4_0, kl5_0, kl6_0, kl7_0, kl8_0, kl9_0, kl10_0, kl11_0, kl12_0, kl13_0, kL_0, ka0_1, ka1_1, ka2_1, ka3_1, ka4_1, ka5_1, ka6_1, ka7_1, ka8_1, ka9_1, ka10_1, ka11_1, ka12_1, ka13_1, kl0_1, kl1_1, kl2_1, kl3_1, kl4_1, kl5_1, kl6_1, kl7_1, kl8_1, kl9_1, kl10_1, kl11_1, kl12_1, kl13_1, kL_1]
    refine W_ret ⟨.inr rfl, _, rfl, rfl, ?_, rfl⟩
    rw [same_eq, ← hp1, ← hp2]; simp only [Q, Bool.and_true, Bool.true_and, Bool.false_and, Bool.and_false]; rfl
  · (repeat refine W_seq ?_); refine W_regionT [] ?_
    simp (maxSteps := 1000000) only [go_sem, Q, ka0_0, ka1_0, ka2_0, ka3_0, ka4_0, ka5_0, ka6_0, ka7_0, ka8_0, ka9_0, ka10_0, ka11_0, ka12_0, ka13_0, kl0_0, kl1_0, kl2_0, kl3_0, kl4_0, kl5_0, kl6_0, kl7_0, kl8_0, kl9_0, kl10_0, kl11_0, kl12_0, kl13_0, kL_0, ka0_1, ka1_1, ka2_1, ka3_1, ka4_1, ka5_1, ka6_1, ka7_1, ka8_1, ka9_1, ka10_1, ka11_1, ka12_1, ka13_1, kl0_1, kl1_1, kl2_1, kl3_1, kl4_1, kl5_1, kl6_1, kl7_1, kl8_1, kl9_1, kl10_1, kl11_1, kl12_1, kl13_1, kL_1]
    refine W_ret ⟨.inr rfl, _, rfl, rfl, ?_, rfl⟩
    rw [same_eq, ← hp1, ← hp2]; simp only [Q, Bool.and_true, Bool.true_and, Bool.false_and, Bool.and_false]; rfl
  · (repeat refine W_seq ?_); refine W_regionT [] ?_
    simp (maxSteps := 1000000) only [go_sem, Q, ka0_0, ka1_0, ka2_0, ka3_0, ka4_0, ka5_0, ka6_0, ka7_0, ka8_0, ka9_0, ka10_0, ka11_0, ka12_0, ka13_0, kl0_0, kl1_0, kl2_0, kl3_0, kl4_0, kl5_0, kl6_0, kl7_0, kl8_0, kl9_0, kl10_0, kl11_0, kl12_0, kl13_0, kL_0, ka0_1, ka1_1, ka2_1, ka3_1, ka4_1, ka5_1, ka6_1, ka7_1, ka8_1, ka9_1, ka10_1, ka11_1, ka12_1, ka13_1, kl0_1, kl1_1, kl2_1, kl3_1, kl4_1, kl5_1, kl6_1, kl7_1, kl8_1, kl9_1, kl10_1, kl11_1, kl12_1, kl13_1, kL_1]
    refine W_ret ⟨.inr rfl, _, rfl, rfl, ?_, rfl⟩
    rw [same_eq, ← hp1, ← hp2]; simp only [Q, Bool.and_true, Bool.true_and, Bool.false_and, Bool.and_false]; rfl
  · (repeat refine W_seq ?_); refine W_regionT [] ?_
    simp (maxSteps := 1000000) only [go_sem, Q, ka0_0, ka1_0, ka2_0, ka3_0, ka4_0, ka5_0, ka6_0, ka7_0, ka8_0, ka9_0, ka10_0, ka11_0, ka12_0, ka13_0, kl0_0, kl1_0, kl2_0, kl3_0, kl4_0, kl5_0, kl6_0, kl7_0, kl8_0, kl9_0, kl10_0, kl11_0, kl12_0, kl13_0, kL_0, ka0_1, ka1_1, ka2_1, ka3_1, ka4_1, ka5_1, ka6_1, ka7_1, ka8_1, ka9_1, ka10_1, ka11_1, ka12_1, ka13_1, kl0_1, kl1_1, kl2_1, kl3_1, kl4_1, kl5_1, kl6_1, kl7_1, kl8_1, kl9_1, kl10_1, kl11_1, kl12_1, kl13_1, kL_1]
    refine AT_call rfl rfl (equal101 hn hn2 hl) fun v M1 hd1 h1 => ?_
    obtain ⟨hv, hM⟩ := h1; subst hv; subst hM
    simp (maxSteps := 1000000) only [go_sem, Q, ka0_0, ka1_0, ka2_0, ka3_0, ka4_0, ka5_0, ka6_0, ka7_0, ka8_0, ka9_0, ka10_0, ka11_0, ka12_0, ka13_0, kl0_0, kl1_0, kl2_0, kl3_0, kl4_0, kl5_0, kl6_0, kl7_0, kl8_0, kl9_0, kl10_0, kl11_0, kl12_0, kl13_0, kL_0, ka0_1, ka1_1, ka2_1, ka3_1, ka4_1, ka5_1, ka6_1, ka7_1, ka8_1, ka9_1, ka10_1, ka11_1, ka12_1, ka13_1, kl0_1, kl1_1, kl2_1, kl3_1, kl4_1, kl5_1, kl6_1, kl7_1, kl8_1, kl9_1, kl10_1, kl11_1, kl12_1, kl13_1, kL_1]
    refine W_ret ⟨.inr rfl, _, rfl, rfl, ?_, rfl⟩
    rw [same_eq, ← hp1, ← hp2]; simp only [Q, Bool.and_true, Bool.true_and, Bool.false_and, Bool.and_false]; rfl
  · (repeat refine W_seq ?_); refine W_regionT [] ?_
    simp (maxSteps := 1000000) only [go_sem, Q, ka0_0, ka1_0, ka2_0, ka3_0, ka4_0, ka5_0, ka6_0, ka7_0, ka8_0, ka9_0, ka10_0, ka11_0, ka12_0, ka13_0, kl0_0, kl1_0, kl2_0, kl3_0, kl4_0, kl5_0, kl6_0, kl7_0, kl8_0, kl9_0, kl10_0, kl11_0, kl12_0, kl13_0, kL_0, ka0_1, ka1_1, ka2_1, ka3_1, ka4_1, ka5_1, ka6_1, ka7_1, ka8_1, ka9_1, ka10_1, ka11_1, ka12_1, ka13_1, kl0_1, kl1_1, kl2_1, kl3_1, kl4_1, kl5_1, kl6_1, kl7_1, kl8_1, kl9_1, kl10_1, kl11_1, kl12_1, kl13_1, kL_1]
    refine AT_call rfl rfl (equal101 hn hn2 hl) fun v M1 hd1 h1 => ?_
    obtain ⟨hv, hM⟩ := h1; subst hv; subst hM
    simp (maxSteps := 1000000) only [go_sem, Q, ka0_0, ka1_0, ka2_0, ka3_0, ka4_0, ka5_0, ka6_0, ka7_0, ka8_0, ka9_0, ka10_0, ka11_0, ka12_0, ka13_0, kl0_0, kl1_0, kl2_0, kl3_0, kl4_0, kl5_0, kl6_0, kl7_0, kl8_0, kl9_0, kl10_0, kl11_0, kl12_0, kl13_0, kL_0, ka0_1, ka1_1, ka2_1, ka3_1, ka4_1, ka5_1, ka6_1, ka7_1, ka8_1, ka9_1, ka10_1, ka11_1, ka12_1, ka13_1, kl0_1, kl1_1, kl2_1, kl3_1, kl4_1, kl5_1, kl6_1, kl7_1, kl8_1, kl9_1, kl10_1, kl11_1, kl12_1, kl13_1, kL_1]
    refine AT_call rfl rfl (bytes102 hd hd2) fun v M1 hd1 h1 => ?_
    obtain ⟨hv, hM⟩ := h1; subst hv; subst hM
    simp (maxSteps := 1000000) only [go_sem, Q, ka0_0, ka1_0, ka2_0, ka3_0, ka4_0, ka5_0, ka6_0, ka7_0, ka8_0, ka9_0, ka10_0, ka11_0, ka12_0, ka13_0, kl0_0, kl1_0, kl2_0, kl3_0, kl4_0, kl5_0, kl6_0, kl7_0, kl8_0, kl9_0, kl10_0, kl11_0, kl12_0, kl13_0, kL_0, ka0_1, ka1_1, ka2_1, ka3_1, ka4_1, ka5_1, ka6_1, ka7_1, ka8_1, ka9_1, ka10_1, ka11_1, ka12_1, ka13_1, kl0_1, kl1_1, kl2_1, kl3_1, kl4_1, kl5_1, kl6_1, kl7_1, kl8_1, kl9_1, kl10_1, kl11_1, kl12_1, kl13_1, kL_1]
    refine W_ret ⟨.inr rfl, _, rfl, rfl, ?_, rfl⟩
    rw [same_eq, ← hp1, ← hp2]; simp only [Q, Bool.and_true, Bool.true_and, Bool.false_and, Bool.and_false]; rfl
  · (repeat refine W_seq ?_); refine W_regionT [] ?_
    simp (maxSteps := 1000000) only [go_sem, Q, ka0_0, ka1_0, ka2_0, ka3_0, ka4_0, ka5_0, ka6_0, ka7_0, ka8_0, ka9_0, ka10_0, ka11_0, ka12_0, ka13_0, kl0_0, kl1_0, kl2_0, kl3_0, kl4_0, kl5_0, kl6_0, kl7_0, kl8_0, kl9_0, kl10_0, kl11_0, kl12_0, kl13_0, kL_0, ka0_1, ka1_1, ka2_1, ka3_1, ka4_1, ka5_1, ka6_1, ka7_1, ka8_1, ka9_1, ka10_1, ka11_1, ka12_1, ka13_1, kl0_1, kl1_1, kl2_1, kl3_1, kl4_1, kl5_1, kl6_1, kl7_1, kl8_1, kl9_1, kl10_1, kl11_1, kl12_1, kl13_1, kL_1]
    refine AT_call rfl rfl (equal101 hn hn2 hl) fun v M1 hd1 h1 => ?_
    obtain ⟨hv, hM⟩ := h1; subst hv; subst hM
    simp (maxSteps := 1000000) only [go_sem, Q, ka0_0, ka1_0, ka2_0, ka3_0, ka4_0, ka5_0, ka6_0, ka7_0, ka8_0, ka9_0, ka10_0, ka11_0, ka12_0, ka13_0, kl0_0, kl1_0, kl2_0, kl3_0, kl4_0, kl5_0, kl6_0, kl7_0, kl8_0, kl9_0, kl10_0, kl11_0, kl12_0, kl13_0, kL_0, ka0_1, ka1_1, ka2_1, ka3_1, ka4_1, ka5_1, ka6_1, ka7_1, ka8_1, ka9_1, ka10_1, ka11_1, ka12_1, ka13_1, kl0_1, kl1_1, kl2_1, kl3_1, kl4_1, kl5_1, kl6_1, kl7_1, kl8_1, kl9_1, kl10_1, kl11_1, kl12_1, kl13_1, kL_1]
    refine AT_call rfl rfl (bytes102 hd hd2) fun v M1 hd1 h1 => ?_
    obtain ⟨hv, hM⟩ := h1; subst hv; subst hM
    simp (maxSteps := 1000000) only [go_sem, Q, ka0_0, ka1_0, ka2_0, ka3_0, ka4_0, ka5_0, ka6_0, ka7_0, ka8_0, ka9_0, ka10_0, ka11_0, ka12_0, ka13_0, kl0_0, kl1_0, kl2_0, kl3_0, kl4_0, kl5_0, kl6_0, kl7_0, kl8_0, kl9_0, kl10_0, kl11_0, kl12_0, kl13_0, kL_0, ka0_1, ka1_1, ka2_1, ka3_1, ka4_1, ka5_1, ka6_1, ka7_1, ka8_1, ka9_1, ka10_1, ka11_1, ka12_1, ka13_1, kl0_1, kl1_1, kl2_1, kl3_1, kl4_1, kl5_1, kl6_1, kl7_1, kl8_1, kl9_1, kl10_1, kl11_1, kl12_1, kl13_1, kL_1]
    refine W_ret ⟨.inr rfl, _, rfl, rfl, ?_, rfl⟩
    rw [same_eq, ← hp1, ← hp2]; simp only [Q, Bool.and_true, Bool.true_and, Bool.false_and, Bool.and_false]; rfl
end
end Go.Proofs.Ytlpcbfndjffpfaa
