/- Replies in memory; the walk of tell's in, kind, known, own, Same. -/
import Derived.Test.YtlpcbfndjffpfaaShared
set_option maxRecDepth 100000
set_option maxHeartbeats 4000000
set_option linter.unusedSimpArgs false
set_option linter.unusedVariables false
namespace Go.Proofs.Ytlpcbfndjffpfaa
open Go.Abs
structure QidR where
  dir : Bool
  ver : Int
  path : Int
  deriving DecidableEq
structure StatR where
  q : QidR
  mode : Int
  size : Int
  name : List UInt8
  deriving DecidableEq
structure TellR where
  ty : Int
  tag : Int
  code : Int
  msize : Int
  iounit : Int
  count : Int
  name : List UInt8
  q : QidR
  qids : List QidR
  data : List UInt8
  s : StatR
  deriving DecidableEq
def QidR.cells (a : QidR) : List AV := [.bool a.dir, .int .i64 a.ver, .int .i64 a.path]
def StatR.cells (a : StatR) : List AV := [.bool a.q.dir, .int .i64 a.q.ver, .int .i64 a.q.path, .int .i64 a.mode, .int .i64 a.size, .str a.name]
def TellR.cells (a : TellR) (vn vd : AV) : List AV := [.int .i64 a.ty, .int .i64 a.tag, .int .i64 a.code, .int .i64 a.msize, .int .i64 a.iounit, .int .i64 a.count, .str a.name, .bool a.q.dir, .int .i64 a.q.ver, .int .i64 a.q.path, vn, vd, .bool a.s.q.dir, .int .i64 a.s.q.ver, .int .i64 a.s.q.path, .int .i64 a.s.mode, .int .i64 a.s.size, .str a.s.name]
def QidR.z : QidR := ⟨false, 0, 0⟩
def StatR.z : StatR := ⟨QidR.z, 0, 0, []⟩
def TellR.z : TellR := ⟨0, 0, 0, 0, 0, 0, [], QidR.z, [], [], StatR.z⟩
/-- A list of qids. -/
def QL (H : List Block) (v : AV) (l : List QidR) : Prop := RH H v 3 (l.flatMap QidR.cells) l.length ∧ v.off0 = true
/-- A reply. -/
def TellV (H : List Block) (x : AV) (a : TellR) : Prop := ∃ vn vd, x = .agg (a.cells vn vd) ∧ QL H vn a.qids ∧ BH H vd a.data
section
variable {H : List Block} {S : List (List Block)} {F : List Block} {lv ix : Nat} {M' : Mem} {a : TellR} {vn vd : AV} {B0 B1 B2 : Block}
theorem wa0  (h : M'.get lv ix = some (Block.row ⟨90, 18, (TellR.cells a vn vd), false, false⟩)) : fieldAddrA Try.prog 90 (.ptr ⟨lv, ix, 0⟩) 0 M' = some (.ptr ⟨lv, ix, 0⟩) := field_addr (a := ⟨lv, ix, 0⟩) (r := ⟨90, 18, (TellR.cells a vn vd), false, false⟩) (off := 0) ti90 rfl rfl ti3 (by unfold getRow; simp only [h])
theorem wa0_0  : fieldAddrA Try.prog 90 (.ptr ⟨S.length + 1, 0, 0⟩) 0 ⟨H, (Block.row ⟨90, 18, (TellR.cells a vn vd), false, false⟩ :: F) :: S⟩ = some (.ptr ⟨S.length + 1, 0, 0⟩) := by
  have h := wa0 (a := a) (gt0 (H := H) (S := S) (F := F) (X := Block.row ⟨90, 18, (TellR.cells a vn vd), false, false⟩))
  exact h
theorem wa0_1  : fieldAddrA Try.prog 90 (.ptr ⟨S.length + 1, 1, 0⟩) 0 ⟨H, (B0 :: Block.row ⟨90, 18, (TellR.cells a vn vd), false, false⟩ :: F) :: S⟩ = some (.ptr ⟨S.length + 1, 1, 0⟩) := by
  have h := wa0 (a := a) (gt1 (H := H) (S := S) (F := F) (X := Block.row ⟨90, 18, (TellR.cells a vn vd), false, false⟩) (B0 := B0))
  exact h
theorem wa0_2  : fieldAddrA Try.prog 90 (.ptr ⟨S.length + 1, 2, 0⟩) 0 ⟨H, (B0 :: B1 :: Block.row ⟨90, 18, (TellR.cells a vn vd), false, false⟩ :: F) :: S⟩ = some (.ptr ⟨S.length + 1, 2, 0⟩) := by
  have h := wa0 (a := a) (gt2 (H := H) (S := S) (F := F) (X := Block.row ⟨90, 18, (TellR.cells a vn vd), false, false⟩) (B0 := B0) (B1 := B1))
  exact h
theorem wa1  (h : M'.get lv ix = some (Block.row ⟨90, 18, (TellR.cells a vn vd), false, false⟩)) : fieldAddrA Try.prog 90 (.ptr ⟨lv, ix, 0⟩) 1 M' = some (.ptr ⟨lv, ix, 1⟩) := field_addr (a := ⟨lv, ix, 0⟩) (r := ⟨90, 18, (TellR.cells a vn vd), false, false⟩) (off := 1) ti90 rfl rfl ti3 (by unfold getRow; simp only [h])
theorem wa1_0  : fieldAddrA Try.prog 90 (.ptr ⟨S.length + 1, 0, 0⟩) 1 ⟨H, (Block.row ⟨90, 18, (TellR.cells a vn vd), false, false⟩ :: F) :: S⟩ = some (.ptr ⟨S.length + 1, 0, 1⟩) := by
  have h := wa1 (a := a) (gt0 (H := H) (S := S) (F := F) (X := Block.row ⟨90, 18, (TellR.cells a vn vd), false, false⟩))
  exact h
theorem wa1_1  : fieldAddrA Try.prog 90 (.ptr ⟨S.length + 1, 1, 0⟩) 1 ⟨H, (B0 :: Block.row ⟨90, 18, (TellR.cells a vn vd), false, false⟩ :: F) :: S⟩ = some (.ptr ⟨S.length + 1, 1, 1⟩) := by
  have h := wa1 (a := a) (gt1 (H := H) (S := S) (F := F) (X := Block.row ⟨90, 18, (TellR.cells a vn vd), false, false⟩) (B0 := B0))
  exact h
theorem wa1_2  : fieldAddrA Try.prog 90 (.ptr ⟨S.length + 1, 2, 0⟩) 1 ⟨H, (B0 :: B1 :: Block.row ⟨90, 18, (TellR.cells a vn vd), false, false⟩ :: F) :: S⟩ = some (.ptr ⟨S.length + 1, 2, 1⟩) := by
  have h := wa1 (a := a) (gt2 (H := H) (S := S) (F := F) (X := Block.row ⟨90, 18, (TellR.cells a vn vd), false, false⟩) (B0 := B0) (B1 := B1))
  exact h
theorem wa2  (h : M'.get lv ix = some (Block.row ⟨90, 18, (TellR.cells a vn vd), false, false⟩)) : fieldAddrA Try.prog 90 (.ptr ⟨lv, ix, 0⟩) 2 M' = some (.ptr ⟨lv, ix, 2⟩) := field_addr (a := ⟨lv, ix, 0⟩) (r := ⟨90, 18, (TellR.cells a vn vd), false, false⟩) (off := 2) ti90 rfl rfl ti3 (by unfold getRow; simp only [h])
theorem wa2_0  : fieldAddrA Try.prog 90 (.ptr ⟨S.length + 1, 0, 0⟩) 2 ⟨H, (Block.row ⟨90, 18, (TellR.cells a vn vd), false, false⟩ :: F) :: S⟩ = some (.ptr ⟨S.length + 1, 0, 2⟩) := by
  have h := wa2 (a := a) (gt0 (H := H) (S := S) (F := F) (X := Block.row ⟨90, 18, (TellR.cells a vn vd), false, false⟩))
  exact h
theorem wa2_1  : fieldAddrA Try.prog 90 (.ptr ⟨S.length + 1, 1, 0⟩) 2 ⟨H, (B0 :: Block.row ⟨90, 18, (TellR.cells a vn vd), false, false⟩ :: F) :: S⟩ = some (.ptr ⟨S.length + 1, 1, 2⟩) := by
  have h := wa2 (a := a) (gt1 (H := H) (S := S) (F := F) (X := Block.row ⟨90, 18, (TellR.cells a vn vd), false, false⟩) (B0 := B0))
  exact h
theorem wa2_2  : fieldAddrA Try.prog 90 (.ptr ⟨S.length + 1, 2, 0⟩) 2 ⟨H, (B0 :: B1 :: Block.row ⟨90, 18, (TellR.cells a vn vd), false, false⟩ :: F) :: S⟩ = some (.ptr ⟨S.length + 1, 2, 2⟩) := by
  have h := wa2 (a := a) (gt2 (H := H) (S := S) (F := F) (X := Block.row ⟨90, 18, (TellR.cells a vn vd), false, false⟩) (B0 := B0) (B1 := B1))
  exact h
theorem wa3  (h : M'.get lv ix = some (Block.row ⟨90, 18, (TellR.cells a vn vd), false, false⟩)) : fieldAddrA Try.prog 90 (.ptr ⟨lv, ix, 0⟩) 3 M' = some (.ptr ⟨lv, ix, 3⟩) := field_addr (a := ⟨lv, ix, 0⟩) (r := ⟨90, 18, (TellR.cells a vn vd), false, false⟩) (off := 3) ti90 rfl rfl ti3 (by unfold getRow; simp only [h])
theorem wa3_0  : fieldAddrA Try.prog 90 (.ptr ⟨S.length + 1, 0, 0⟩) 3 ⟨H, (Block.row ⟨90, 18, (TellR.cells a vn vd), false, false⟩ :: F) :: S⟩ = some (.ptr ⟨S.length + 1, 0, 3⟩) := by
  have h := wa3 (a := a) (gt0 (H := H) (S := S) (F := F) (X := Block.row ⟨90, 18, (TellR.cells a vn vd), false, false⟩))
  exact h
theorem wa3_1  : fieldAddrA Try.prog 90 (.ptr ⟨S.length + 1, 1, 0⟩) 3 ⟨H, (B0 :: Block.row ⟨90, 18, (TellR.cells a vn vd), false, false⟩ :: F) :: S⟩ = some (.ptr ⟨S.length + 1, 1, 3⟩) := by
  have h := wa3 (a := a) (gt1 (H := H) (S := S) (F := F) (X := Block.row ⟨90, 18, (TellR.cells a vn vd), false, false⟩) (B0 := B0))
  exact h
theorem wa3_2  : fieldAddrA Try.prog 90 (.ptr ⟨S.length + 1, 2, 0⟩) 3 ⟨H, (B0 :: B1 :: Block.row ⟨90, 18, (TellR.cells a vn vd), false, false⟩ :: F) :: S⟩ = some (.ptr ⟨S.length + 1, 2, 3⟩) := by
  have h := wa3 (a := a) (gt2 (H := H) (S := S) (F := F) (X := Block.row ⟨90, 18, (TellR.cells a vn vd), false, false⟩) (B0 := B0) (B1 := B1))
  exact h
theorem wa4  (h : M'.get lv ix = some (Block.row ⟨90, 18, (TellR.cells a vn vd), false, false⟩)) : fieldAddrA Try.prog 90 (.ptr ⟨lv, ix, 0⟩) 4 M' = some (.ptr ⟨lv, ix, 4⟩) := field_addr (a := ⟨lv, ix, 0⟩) (r := ⟨90, 18, (TellR.cells a vn vd), false, false⟩) (off := 4) ti90 rfl rfl ti3 (by unfold getRow; simp only [h])
theorem wa4_0  : fieldAddrA Try.prog 90 (.ptr ⟨S.length + 1, 0, 0⟩) 4 ⟨H, (Block.row ⟨90, 18, (TellR.cells a vn vd), false, false⟩ :: F) :: S⟩ = some (.ptr ⟨S.length + 1, 0, 4⟩) := by
  have h := wa4 (a := a) (gt0 (H := H) (S := S) (F := F) (X := Block.row ⟨90, 18, (TellR.cells a vn vd), false, false⟩))
  exact h
theorem wa4_1  : fieldAddrA Try.prog 90 (.ptr ⟨S.length + 1, 1, 0⟩) 4 ⟨H, (B0 :: Block.row ⟨90, 18, (TellR.cells a vn vd), false, false⟩ :: F) :: S⟩ = some (.ptr ⟨S.length + 1, 1, 4⟩) := by
  have h := wa4 (a := a) (gt1 (H := H) (S := S) (F := F) (X := Block.row ⟨90, 18, (TellR.cells a vn vd), false, false⟩) (B0 := B0))
  exact h
theorem wa4_2  : fieldAddrA Try.prog 90 (.ptr ⟨S.length + 1, 2, 0⟩) 4 ⟨H, (B0 :: B1 :: Block.row ⟨90, 18, (TellR.cells a vn vd), false, false⟩ :: F) :: S⟩ = some (.ptr ⟨S.length + 1, 2, 4⟩) := by
  have h := wa4 (a := a) (gt2 (H := H) (S := S) (F := F) (X := Block.row ⟨90, 18, (TellR.cells a vn vd), false, false⟩) (B0 := B0) (B1 := B1))
  exact h
theorem wa5  (h : M'.get lv ix = some (Block.row ⟨90, 18, (TellR.cells a vn vd), false, false⟩)) : fieldAddrA Try.prog 90 (.ptr ⟨lv, ix, 0⟩) 5 M' = some (.ptr ⟨lv, ix, 5⟩) := field_addr (a := ⟨lv, ix, 0⟩) (r := ⟨90, 18, (TellR.cells a vn vd), false, false⟩) (off := 5) ti90 rfl rfl ti3 (by unfold getRow; simp only [h])
theorem wa5_0  : fieldAddrA Try.prog 90 (.ptr ⟨S.length + 1, 0, 0⟩) 5 ⟨H, (Block.row ⟨90, 18, (TellR.cells a vn vd), false, false⟩ :: F) :: S⟩ = some (.ptr ⟨S.length + 1, 0, 5⟩) := by
  have h := wa5 (a := a) (gt0 (H := H) (S := S) (F := F) (X := Block.row ⟨90, 18, (TellR.cells a vn vd), false, false⟩))
  exact h
theorem wa5_1  : fieldAddrA Try.prog 90 (.ptr ⟨S.length + 1, 1, 0⟩) 5 ⟨H, (B0 :: Block.row ⟨90, 18, (TellR.cells a vn vd), false, false⟩ :: F) :: S⟩ = some (.ptr ⟨S.length + 1, 1, 5⟩) := by
  have h := wa5 (a := a) (gt1 (H := H) (S := S) (F := F) (X := Block.row ⟨90, 18, (TellR.cells a vn vd), false, false⟩) (B0 := B0))
  exact h
theorem wa5_2  : fieldAddrA Try.prog 90 (.ptr ⟨S.length + 1, 2, 0⟩) 5 ⟨H, (B0 :: B1 :: Block.row ⟨90, 18, (TellR.cells a vn vd), false, false⟩ :: F) :: S⟩ = some (.ptr ⟨S.length + 1, 2, 5⟩) := by
  have h := wa5 (a := a) (gt2 (H := H) (S := S) (F := F) (X := Block.row ⟨90, 18, (TellR.cells a vn vd), false, false⟩) (B0 := B0) (B1 := B1))
  exact h
theorem wa6  (h : M'.get lv ix = some (Block.row ⟨90, 18, (TellR.cells a vn vd), false, false⟩)) : fieldAddrA Try.prog 90 (.ptr ⟨lv, ix, 0⟩) 6 M' = some (.ptr ⟨lv, ix, 6⟩) := field_addr (a := ⟨lv, ix, 0⟩) (r := ⟨90, 18, (TellR.cells a vn vd), false, false⟩) (off := 6) ti90 rfl rfl ti9 (by unfold getRow; simp only [h])
theorem wa6_0  : fieldAddrA Try.prog 90 (.ptr ⟨S.length + 1, 0, 0⟩) 6 ⟨H, (Block.row ⟨90, 18, (TellR.cells a vn vd), false, false⟩ :: F) :: S⟩ = some (.ptr ⟨S.length + 1, 0, 6⟩) := by
  have h := wa6 (a := a) (gt0 (H := H) (S := S) (F := F) (X := Block.row ⟨90, 18, (TellR.cells a vn vd), false, false⟩))
  exact h
theorem wa6_1  : fieldAddrA Try.prog 90 (.ptr ⟨S.length + 1, 1, 0⟩) 6 ⟨H, (B0 :: Block.row ⟨90, 18, (TellR.cells a vn vd), false, false⟩ :: F) :: S⟩ = some (.ptr ⟨S.length + 1, 1, 6⟩) := by
  have h := wa6 (a := a) (gt1 (H := H) (S := S) (F := F) (X := Block.row ⟨90, 18, (TellR.cells a vn vd), false, false⟩) (B0 := B0))
  exact h
theorem wa6_2  : fieldAddrA Try.prog 90 (.ptr ⟨S.length + 1, 2, 0⟩) 6 ⟨H, (B0 :: B1 :: Block.row ⟨90, 18, (TellR.cells a vn vd), false, false⟩ :: F) :: S⟩ = some (.ptr ⟨S.length + 1, 2, 6⟩) := by
  have h := wa6 (a := a) (gt2 (H := H) (S := S) (F := F) (X := Block.row ⟨90, 18, (TellR.cells a vn vd), false, false⟩) (B0 := B0) (B1 := B1))
  exact h
theorem wa7  (h : M'.get lv ix = some (Block.row ⟨90, 18, (TellR.cells a vn vd), false, false⟩)) : fieldAddrA Try.prog 90 (.ptr ⟨lv, ix, 0⟩) 7 M' = some (.ptr ⟨lv, ix, 7⟩) := field_addr (a := ⟨lv, ix, 0⟩) (r := ⟨90, 18, (TellR.cells a vn vd), false, false⟩) (off := 7) ti90 rfl rfl ti85 (by unfold getRow; simp only [h])
theorem wa7_0  : fieldAddrA Try.prog 90 (.ptr ⟨S.length + 1, 0, 0⟩) 7 ⟨H, (Block.row ⟨90, 18, (TellR.cells a vn vd), false, false⟩ :: F) :: S⟩ = some (.ptr ⟨S.length + 1, 0, 7⟩) := by
  have h := wa7 (a := a) (gt0 (H := H) (S := S) (F := F) (X := Block.row ⟨90, 18, (TellR.cells a vn vd), false, false⟩))
  exact h
theorem wa7_1  : fieldAddrA Try.prog 90 (.ptr ⟨S.length + 1, 1, 0⟩) 7 ⟨H, (B0 :: Block.row ⟨90, 18, (TellR.cells a vn vd), false, false⟩ :: F) :: S⟩ = some (.ptr ⟨S.length + 1, 1, 7⟩) := by
  have h := wa7 (a := a) (gt1 (H := H) (S := S) (F := F) (X := Block.row ⟨90, 18, (TellR.cells a vn vd), false, false⟩) (B0 := B0))
  exact h
theorem wa7_2  : fieldAddrA Try.prog 90 (.ptr ⟨S.length + 1, 2, 0⟩) 7 ⟨H, (B0 :: B1 :: Block.row ⟨90, 18, (TellR.cells a vn vd), false, false⟩ :: F) :: S⟩ = some (.ptr ⟨S.length + 1, 2, 7⟩) := by
  have h := wa7 (a := a) (gt2 (H := H) (S := S) (F := F) (X := Block.row ⟨90, 18, (TellR.cells a vn vd), false, false⟩) (B0 := B0) (B1 := B1))
  exact h
theorem wa8  (h : M'.get lv ix = some (Block.row ⟨90, 18, (TellR.cells a vn vd), false, false⟩)) : fieldAddrA Try.prog 90 (.ptr ⟨lv, ix, 0⟩) 8 M' = some (.ptr ⟨lv, ix, 10⟩) := field_addr (a := ⟨lv, ix, 0⟩) (r := ⟨90, 18, (TellR.cells a vn vd), false, false⟩) (off := 10) ti90 rfl rfl ti86 (by unfold getRow; simp only [h])
theorem wa8_0  : fieldAddrA Try.prog 90 (.ptr ⟨S.length + 1, 0, 0⟩) 8 ⟨H, (Block.row ⟨90, 18, (TellR.cells a vn vd), false, false⟩ :: F) :: S⟩ = some (.ptr ⟨S.length + 1, 0, 10⟩) := by
  have h := wa8 (a := a) (gt0 (H := H) (S := S) (F := F) (X := Block.row ⟨90, 18, (TellR.cells a vn vd), false, false⟩))
  exact h
theorem wa8_1  : fieldAddrA Try.prog 90 (.ptr ⟨S.length + 1, 1, 0⟩) 8 ⟨H, (B0 :: Block.row ⟨90, 18, (TellR.cells a vn vd), false, false⟩ :: F) :: S⟩ = some (.ptr ⟨S.length + 1, 1, 10⟩) := by
  have h := wa8 (a := a) (gt1 (H := H) (S := S) (F := F) (X := Block.row ⟨90, 18, (TellR.cells a vn vd), false, false⟩) (B0 := B0))
  exact h
theorem wa8_2  : fieldAddrA Try.prog 90 (.ptr ⟨S.length + 1, 2, 0⟩) 8 ⟨H, (B0 :: B1 :: Block.row ⟨90, 18, (TellR.cells a vn vd), false, false⟩ :: F) :: S⟩ = some (.ptr ⟨S.length + 1, 2, 10⟩) := by
  have h := wa8 (a := a) (gt2 (H := H) (S := S) (F := F) (X := Block.row ⟨90, 18, (TellR.cells a vn vd), false, false⟩) (B0 := B0) (B1 := B1))
  exact h
theorem wa9  (h : M'.get lv ix = some (Block.row ⟨90, 18, (TellR.cells a vn vd), false, false⟩)) : fieldAddrA Try.prog 90 (.ptr ⟨lv, ix, 0⟩) 9 M' = some (.ptr ⟨lv, ix, 11⟩) := field_addr (a := ⟨lv, ix, 0⟩) (r := ⟨90, 18, (TellR.cells a vn vd), false, false⟩) (off := 11) ti90 rfl rfl ti22 (by unfold getRow; simp only [h])
theorem wa9_0  : fieldAddrA Try.prog 90 (.ptr ⟨S.length + 1, 0, 0⟩) 9 ⟨H, (Block.row ⟨90, 18, (TellR.cells a vn vd), false, false⟩ :: F) :: S⟩ = some (.ptr ⟨S.length + 1, 0, 11⟩) := by
  have h := wa9 (a := a) (gt0 (H := H) (S := S) (F := F) (X := Block.row ⟨90, 18, (TellR.cells a vn vd), false, false⟩))
  exact h
theorem wa9_1  : fieldAddrA Try.prog 90 (.ptr ⟨S.length + 1, 1, 0⟩) 9 ⟨H, (B0 :: Block.row ⟨90, 18, (TellR.cells a vn vd), false, false⟩ :: F) :: S⟩ = some (.ptr ⟨S.length + 1, 1, 11⟩) := by
  have h := wa9 (a := a) (gt1 (H := H) (S := S) (F := F) (X := Block.row ⟨90, 18, (TellR.cells a vn vd), false, false⟩) (B0 := B0))
  exact h
theorem wa9_2  : fieldAddrA Try.prog 90 (.ptr ⟨S.length + 1, 2, 0⟩) 9 ⟨H, (B0 :: B1 :: Block.row ⟨90, 18, (TellR.cells a vn vd), false, false⟩ :: F) :: S⟩ = some (.ptr ⟨S.length + 1, 2, 11⟩) := by
  have h := wa9 (a := a) (gt2 (H := H) (S := S) (F := F) (X := Block.row ⟨90, 18, (TellR.cells a vn vd), false, false⟩) (B0 := B0) (B1 := B1))
  exact h
theorem wa10  (h : M'.get lv ix = some (Block.row ⟨90, 18, (TellR.cells a vn vd), false, false⟩)) : fieldAddrA Try.prog 90 (.ptr ⟨lv, ix, 0⟩) 10 M' = some (.ptr ⟨lv, ix, 12⟩) := field_addr (a := ⟨lv, ix, 0⟩) (r := ⟨90, 18, (TellR.cells a vn vd), false, false⟩) (off := 12) ti90 rfl rfl ti88 (by unfold getRow; simp only [h])
theorem wa10_0  : fieldAddrA Try.prog 90 (.ptr ⟨S.length + 1, 0, 0⟩) 10 ⟨H, (Block.row ⟨90, 18, (TellR.cells a vn vd), false, false⟩ :: F) :: S⟩ = some (.ptr ⟨S.length + 1, 0, 12⟩) := by
  have h := wa10 (a := a) (gt0 (H := H) (S := S) (F := F) (X := Block.row ⟨90, 18, (TellR.cells a vn vd), false, false⟩))
  exact h
theorem wa10_1  : fieldAddrA Try.prog 90 (.ptr ⟨S.length + 1, 1, 0⟩) 10 ⟨H, (B0 :: Block.row ⟨90, 18, (TellR.cells a vn vd), false, false⟩ :: F) :: S⟩ = some (.ptr ⟨S.length + 1, 1, 12⟩) := by
  have h := wa10 (a := a) (gt1 (H := H) (S := S) (F := F) (X := Block.row ⟨90, 18, (TellR.cells a vn vd), false, false⟩) (B0 := B0))
  exact h
theorem wa10_2  : fieldAddrA Try.prog 90 (.ptr ⟨S.length + 1, 2, 0⟩) 10 ⟨H, (B0 :: B1 :: Block.row ⟨90, 18, (TellR.cells a vn vd), false, false⟩ :: F) :: S⟩ = some (.ptr ⟨S.length + 1, 2, 12⟩) := by
  have h := wa10 (a := a) (gt2 (H := H) (S := S) (F := F) (X := Block.row ⟨90, 18, (TellR.cells a vn vd), false, false⟩) (B0 := B0) (B1 := B1))
  exact h
theorem wa88_12  (h : M'.get lv ix = some (Block.row ⟨90, 18, (TellR.cells a vn vd), false, false⟩)) : fieldAddrA Try.prog 88 (.ptr ⟨lv, ix, 12⟩) 0 M' = some (.ptr ⟨lv, ix, 12⟩) := field_addr (a := ⟨lv, ix, 12⟩) (r := ⟨90, 18, (TellR.cells a vn vd), false, false⟩) (off := 0) ti88 rfl rfl ti85 (by unfold getRow; simp only [h])
theorem wa88_12_0  : fieldAddrA Try.prog 88 (.ptr ⟨S.length + 1, 0, 12⟩) 0 ⟨H, (Block.row ⟨90, 18, (TellR.cells a vn vd), false, false⟩ :: F) :: S⟩ = some (.ptr ⟨S.length + 1, 0, 12⟩) := by
  have h := wa88_12 (a := a) (gt0 (H := H) (S := S) (F := F) (X := Block.row ⟨90, 18, (TellR.cells a vn vd), false, false⟩))
  exact h
theorem wa88_12_1  : fieldAddrA Try.prog 88 (.ptr ⟨S.length + 1, 1, 12⟩) 0 ⟨H, (B0 :: Block.row ⟨90, 18, (TellR.cells a vn vd), false, false⟩ :: F) :: S⟩ = some (.ptr ⟨S.length + 1, 1, 12⟩) := by
  have h := wa88_12 (a := a) (gt1 (H := H) (S := S) (F := F) (X := Block.row ⟨90, 18, (TellR.cells a vn vd), false, false⟩) (B0 := B0))
  exact h
theorem wa88_12_2  : fieldAddrA Try.prog 88 (.ptr ⟨S.length + 1, 2, 12⟩) 0 ⟨H, (B0 :: B1 :: Block.row ⟨90, 18, (TellR.cells a vn vd), false, false⟩ :: F) :: S⟩ = some (.ptr ⟨S.length + 1, 2, 12⟩) := by
  have h := wa88_12 (a := a) (gt2 (H := H) (S := S) (F := F) (X := Block.row ⟨90, 18, (TellR.cells a vn vd), false, false⟩) (B0 := B0) (B1 := B1))
  exact h
theorem wa88_15  (h : M'.get lv ix = some (Block.row ⟨90, 18, (TellR.cells a vn vd), false, false⟩)) : fieldAddrA Try.prog 88 (.ptr ⟨lv, ix, 12⟩) 1 M' = some (.ptr ⟨lv, ix, 15⟩) := field_addr (a := ⟨lv, ix, 12⟩) (r := ⟨90, 18, (TellR.cells a vn vd), false, false⟩) (off := 3) ti88 rfl rfl ti3 (by unfold getRow; simp only [h])
theorem wa88_15_0  : fieldAddrA Try.prog 88 (.ptr ⟨S.length + 1, 0, 12⟩) 1 ⟨H, (Block.row ⟨90, 18, (TellR.cells a vn vd), false, false⟩ :: F) :: S⟩ = some (.ptr ⟨S.length + 1, 0, 15⟩) := by
  have h := wa88_15 (a := a) (gt0 (H := H) (S := S) (F := F) (X := Block.row ⟨90, 18, (TellR.cells a vn vd), false, false⟩))
  exact h
theorem wa88_15_1  : fieldAddrA Try.prog 88 (.ptr ⟨S.length + 1, 1, 12⟩) 1 ⟨H, (B0 :: Block.row ⟨90, 18, (TellR.cells a vn vd), false, false⟩ :: F) :: S⟩ = some (.ptr ⟨S.length + 1, 1, 15⟩) := by
  have h := wa88_15 (a := a) (gt1 (H := H) (S := S) (F := F) (X := Block.row ⟨90, 18, (TellR.cells a vn vd), false, false⟩) (B0 := B0))
  exact h
theorem wa88_15_2  : fieldAddrA Try.prog 88 (.ptr ⟨S.length + 1, 2, 12⟩) 1 ⟨H, (B0 :: B1 :: Block.row ⟨90, 18, (TellR.cells a vn vd), false, false⟩ :: F) :: S⟩ = some (.ptr ⟨S.length + 1, 2, 15⟩) := by
  have h := wa88_15 (a := a) (gt2 (H := H) (S := S) (F := F) (X := Block.row ⟨90, 18, (TellR.cells a vn vd), false, false⟩) (B0 := B0) (B1 := B1))
  exact h
theorem wa88_16  (h : M'.get lv ix = some (Block.row ⟨90, 18, (TellR.cells a vn vd), false, false⟩)) : fieldAddrA Try.prog 88 (.ptr ⟨lv, ix, 12⟩) 2 M' = some (.ptr ⟨lv, ix, 16⟩) := field_addr (a := ⟨lv, ix, 12⟩) (r := ⟨90, 18, (TellR.cells a vn vd), false, false⟩) (off := 4) ti88 rfl rfl ti3 (by unfold getRow; simp only [h])
theorem wa88_16_0  : fieldAddrA Try.prog 88 (.ptr ⟨S.length + 1, 0, 12⟩) 2 ⟨H, (Block.row ⟨90, 18, (TellR.cells a vn vd), false, false⟩ :: F) :: S⟩ = some (.ptr ⟨S.length + 1, 0, 16⟩) := by
  have h := wa88_16 (a := a) (gt0 (H := H) (S := S) (F := F) (X := Block.row ⟨90, 18, (TellR.cells a vn vd), false, false⟩))
  exact h
theorem wa88_16_1  : fieldAddrA Try.prog 88 (.ptr ⟨S.length + 1, 1, 12⟩) 2 ⟨H, (B0 :: Block.row ⟨90, 18, (TellR.cells a vn vd), false, false⟩ :: F) :: S⟩ = some (.ptr ⟨S.length + 1, 1, 16⟩) := by
  have h := wa88_16 (a := a) (gt1 (H := H) (S := S) (F := F) (X := Block.row ⟨90, 18, (TellR.cells a vn vd), false, false⟩) (B0 := B0))
  exact h
theorem wa88_16_2  : fieldAddrA Try.prog 88 (.ptr ⟨S.length + 1, 2, 12⟩) 2 ⟨H, (B0 :: B1 :: Block.row ⟨90, 18, (TellR.cells a vn vd), false, false⟩ :: F) :: S⟩ = some (.ptr ⟨S.length + 1, 2, 16⟩) := by
  have h := wa88_16 (a := a) (gt2 (H := H) (S := S) (F := F) (X := Block.row ⟨90, 18, (TellR.cells a vn vd), false, false⟩) (B0 := B0) (B1 := B1))
  exact h
theorem wa88_17  (h : M'.get lv ix = some (Block.row ⟨90, 18, (TellR.cells a vn vd), false, false⟩)) : fieldAddrA Try.prog 88 (.ptr ⟨lv, ix, 12⟩) 3 M' = some (.ptr ⟨lv, ix, 17⟩) := field_addr (a := ⟨lv, ix, 12⟩) (r := ⟨90, 18, (TellR.cells a vn vd), false, false⟩) (off := 5) ti88 rfl rfl ti9 (by unfold getRow; simp only [h])
theorem wa88_17_0  : fieldAddrA Try.prog 88 (.ptr ⟨S.length + 1, 0, 12⟩) 3 ⟨H, (Block.row ⟨90, 18, (TellR.cells a vn vd), false, false⟩ :: F) :: S⟩ = some (.ptr ⟨S.length + 1, 0, 17⟩) := by
  have h := wa88_17 (a := a) (gt0 (H := H) (S := S) (F := F) (X := Block.row ⟨90, 18, (TellR.cells a vn vd), false, false⟩))
  exact h
theorem wa88_17_1  : fieldAddrA Try.prog 88 (.ptr ⟨S.length + 1, 1, 12⟩) 3 ⟨H, (B0 :: Block.row ⟨90, 18, (TellR.cells a vn vd), false, false⟩ :: F) :: S⟩ = some (.ptr ⟨S.length + 1, 1, 17⟩) := by
  have h := wa88_17 (a := a) (gt1 (H := H) (S := S) (F := F) (X := Block.row ⟨90, 18, (TellR.cells a vn vd), false, false⟩) (B0 := B0))
  exact h
theorem wa88_17_2  : fieldAddrA Try.prog 88 (.ptr ⟨S.length + 1, 2, 12⟩) 3 ⟨H, (B0 :: B1 :: Block.row ⟨90, 18, (TellR.cells a vn vd), false, false⟩ :: F) :: S⟩ = some (.ptr ⟨S.length + 1, 2, 17⟩) := by
  have h := wa88_17 (a := a) (gt2 (H := H) (S := S) (F := F) (X := Block.row ⟨90, 18, (TellR.cells a vn vd), false, false⟩) (B0 := B0) (B1 := B1))
  exact h
theorem wa85_7  (h : M'.get lv ix = some (Block.row ⟨90, 18, (TellR.cells a vn vd), false, false⟩)) : fieldAddrA Try.prog 85 (.ptr ⟨lv, ix, 7⟩) 0 M' = some (.ptr ⟨lv, ix, 7⟩) := field_addr (a := ⟨lv, ix, 7⟩) (r := ⟨90, 18, (TellR.cells a vn vd), false, false⟩) (off := 0) ti85 rfl rfl ti4 (by unfold getRow; simp only [h])
theorem wa85_7_0  : fieldAddrA Try.prog 85 (.ptr ⟨S.length + 1, 0, 7⟩) 0 ⟨H, (Block.row ⟨90, 18, (TellR.cells a vn vd), false, false⟩ :: F) :: S⟩ = some (.ptr ⟨S.length + 1, 0, 7⟩) := by
  have h := wa85_7 (a := a) (gt0 (H := H) (S := S) (F := F) (X := Block.row ⟨90, 18, (TellR.cells a vn vd), false, false⟩))
  exact h
theorem wa85_7_1  : fieldAddrA Try.prog 85 (.ptr ⟨S.length + 1, 1, 7⟩) 0 ⟨H, (B0 :: Block.row ⟨90, 18, (TellR.cells a vn vd), false, false⟩ :: F) :: S⟩ = some (.ptr ⟨S.length + 1, 1, 7⟩) := by
  have h := wa85_7 (a := a) (gt1 (H := H) (S := S) (F := F) (X := Block.row ⟨90, 18, (TellR.cells a vn vd), false, false⟩) (B0 := B0))
  exact h
theorem wa85_7_2  : fieldAddrA Try.prog 85 (.ptr ⟨S.length + 1, 2, 7⟩) 0 ⟨H, (B0 :: B1 :: Block.row ⟨90, 18, (TellR.cells a vn vd), false, false⟩ :: F) :: S⟩ = some (.ptr ⟨S.length + 1, 2, 7⟩) := by
  have h := wa85_7 (a := a) (gt2 (H := H) (S := S) (F := F) (X := Block.row ⟨90, 18, (TellR.cells a vn vd), false, false⟩) (B0 := B0) (B1 := B1))
  exact h
theorem wa85_8  (h : M'.get lv ix = some (Block.row ⟨90, 18, (TellR.cells a vn vd), false, false⟩)) : fieldAddrA Try.prog 85 (.ptr ⟨lv, ix, 7⟩) 1 M' = some (.ptr ⟨lv, ix, 8⟩) := field_addr (a := ⟨lv, ix, 7⟩) (r := ⟨90, 18, (TellR.cells a vn vd), false, false⟩) (off := 1) ti85 rfl rfl ti3 (by unfold getRow; simp only [h])
theorem wa85_8_0  : fieldAddrA Try.prog 85 (.ptr ⟨S.length + 1, 0, 7⟩) 1 ⟨H, (Block.row ⟨90, 18, (TellR.cells a vn vd), false, false⟩ :: F) :: S⟩ = some (.ptr ⟨S.length + 1, 0, 8⟩) := by
  have h := wa85_8 (a := a) (gt0 (H := H) (S := S) (F := F) (X := Block.row ⟨90, 18, (TellR.cells a vn vd), false, false⟩))
  exact h
theorem wa85_8_1  : fieldAddrA Try.prog 85 (.ptr ⟨S.length + 1, 1, 7⟩) 1 ⟨H, (B0 :: Block.row ⟨90, 18, (TellR.cells a vn vd), false, false⟩ :: F) :: S⟩ = some (.ptr ⟨S.length + 1, 1, 8⟩) := by
  have h := wa85_8 (a := a) (gt1 (H := H) (S := S) (F := F) (X := Block.row ⟨90, 18, (TellR.cells a vn vd), false, false⟩) (B0 := B0))
  exact h
theorem wa85_8_2  : fieldAddrA Try.prog 85 (.ptr ⟨S.length + 1, 2, 7⟩) 1 ⟨H, (B0 :: B1 :: Block.row ⟨90, 18, (TellR.cells a vn vd), false, false⟩ :: F) :: S⟩ = some (.ptr ⟨S.length + 1, 2, 8⟩) := by
  have h := wa85_8 (a := a) (gt2 (H := H) (S := S) (F := F) (X := Block.row ⟨90, 18, (TellR.cells a vn vd), false, false⟩) (B0 := B0) (B1 := B1))
  exact h
theorem wa85_9  (h : M'.get lv ix = some (Block.row ⟨90, 18, (TellR.cells a vn vd), false, false⟩)) : fieldAddrA Try.prog 85 (.ptr ⟨lv, ix, 7⟩) 2 M' = some (.ptr ⟨lv, ix, 9⟩) := field_addr (a := ⟨lv, ix, 7⟩) (r := ⟨90, 18, (TellR.cells a vn vd), false, false⟩) (off := 2) ti85 rfl rfl ti3 (by unfold getRow; simp only [h])
theorem wa85_9_0  : fieldAddrA Try.prog 85 (.ptr ⟨S.length + 1, 0, 7⟩) 2 ⟨H, (Block.row ⟨90, 18, (TellR.cells a vn vd), false, false⟩ :: F) :: S⟩ = some (.ptr ⟨S.length + 1, 0, 9⟩) := by
  have h := wa85_9 (a := a) (gt0 (H := H) (S := S) (F := F) (X := Block.row ⟨90, 18, (TellR.cells a vn vd), false, false⟩))
  exact h
theorem wa85_9_1  : fieldAddrA Try.prog 85 (.ptr ⟨S.length + 1, 1, 7⟩) 2 ⟨H, (B0 :: Block.row ⟨90, 18, (TellR.cells a vn vd), false, false⟩ :: F) :: S⟩ = some (.ptr ⟨S.length + 1, 1, 9⟩) := by
  have h := wa85_9 (a := a) (gt1 (H := H) (S := S) (F := F) (X := Block.row ⟨90, 18, (TellR.cells a vn vd), false, false⟩) (B0 := B0))
  exact h
theorem wa85_9_2  : fieldAddrA Try.prog 85 (.ptr ⟨S.length + 1, 2, 7⟩) 2 ⟨H, (B0 :: B1 :: Block.row ⟨90, 18, (TellR.cells a vn vd), false, false⟩ :: F) :: S⟩ = some (.ptr ⟨S.length + 1, 2, 9⟩) := by
  have h := wa85_9 (a := a) (gt2 (H := H) (S := S) (F := F) (X := Block.row ⟨90, 18, (TellR.cells a vn vd), false, false⟩) (B0 := B0) (B1 := B1))
  exact h
theorem wa85_13  (h : M'.get lv ix = some (Block.row ⟨90, 18, (TellR.cells a vn vd), false, false⟩)) : fieldAddrA Try.prog 85 (.ptr ⟨lv, ix, 12⟩) 1 M' = some (.ptr ⟨lv, ix, 13⟩) := field_addr (a := ⟨lv, ix, 12⟩) (r := ⟨90, 18, (TellR.cells a vn vd), false, false⟩) (off := 1) ti85 rfl rfl ti3 (by unfold getRow; simp only [h])
theorem wa85_13_0  : fieldAddrA Try.prog 85 (.ptr ⟨S.length + 1, 0, 12⟩) 1 ⟨H, (Block.row ⟨90, 18, (TellR.cells a vn vd), false, false⟩ :: F) :: S⟩ = some (.ptr ⟨S.length + 1, 0, 13⟩) := by
  have h := wa85_13 (a := a) (gt0 (H := H) (S := S) (F := F) (X := Block.row ⟨90, 18, (TellR.cells a vn vd), false, false⟩))
  exact h
theorem wa85_13_1  : fieldAddrA Try.prog 85 (.ptr ⟨S.length + 1, 1, 12⟩) 1 ⟨H, (B0 :: Block.row ⟨90, 18, (TellR.cells a vn vd), false, false⟩ :: F) :: S⟩ = some (.ptr ⟨S.length + 1, 1, 13⟩) := by
  have h := wa85_13 (a := a) (gt1 (H := H) (S := S) (F := F) (X := Block.row ⟨90, 18, (TellR.cells a vn vd), false, false⟩) (B0 := B0))
  exact h
theorem wa85_13_2  : fieldAddrA Try.prog 85 (.ptr ⟨S.length + 1, 2, 12⟩) 1 ⟨H, (B0 :: B1 :: Block.row ⟨90, 18, (TellR.cells a vn vd), false, false⟩ :: F) :: S⟩ = some (.ptr ⟨S.length + 1, 2, 13⟩) := by
  have h := wa85_13 (a := a) (gt2 (H := H) (S := S) (F := F) (X := Block.row ⟨90, 18, (TellR.cells a vn vd), false, false⟩) (B0 := B0) (B1 := B1))
  exact h
theorem wa85_14  (h : M'.get lv ix = some (Block.row ⟨90, 18, (TellR.cells a vn vd), false, false⟩)) : fieldAddrA Try.prog 85 (.ptr ⟨lv, ix, 12⟩) 2 M' = some (.ptr ⟨lv, ix, 14⟩) := field_addr (a := ⟨lv, ix, 12⟩) (r := ⟨90, 18, (TellR.cells a vn vd), false, false⟩) (off := 2) ti85 rfl rfl ti3 (by unfold getRow; simp only [h])
theorem wa85_14_0  : fieldAddrA Try.prog 85 (.ptr ⟨S.length + 1, 0, 12⟩) 2 ⟨H, (Block.row ⟨90, 18, (TellR.cells a vn vd), false, false⟩ :: F) :: S⟩ = some (.ptr ⟨S.length + 1, 0, 14⟩) := by
  have h := wa85_14 (a := a) (gt0 (H := H) (S := S) (F := F) (X := Block.row ⟨90, 18, (TellR.cells a vn vd), false, false⟩))
  exact h
theorem wa85_14_1  : fieldAddrA Try.prog 85 (.ptr ⟨S.length + 1, 1, 12⟩) 2 ⟨H, (B0 :: Block.row ⟨90, 18, (TellR.cells a vn vd), false, false⟩ :: F) :: S⟩ = some (.ptr ⟨S.length + 1, 1, 14⟩) := by
  have h := wa85_14 (a := a) (gt1 (H := H) (S := S) (F := F) (X := Block.row ⟨90, 18, (TellR.cells a vn vd), false, false⟩) (B0 := B0))
  exact h
theorem wa85_14_2  : fieldAddrA Try.prog 85 (.ptr ⟨S.length + 1, 2, 12⟩) 2 ⟨H, (B0 :: B1 :: Block.row ⟨90, 18, (TellR.cells a vn vd), false, false⟩ :: F) :: S⟩ = some (.ptr ⟨S.length + 1, 2, 14⟩) := by
  have h := wa85_14 (a := a) (gt2 (H := H) (S := S) (F := F) (X := Block.row ⟨90, 18, (TellR.cells a vn vd), false, false⟩) (B0 := B0) (B1 := B1))
  exact h
theorem wl0  (h : M'.get lv ix = some (Block.row ⟨90, 18, (TellR.cells a vn vd), false, false⟩)) : loadA Try.prog 3 (.ptr ⟨lv, ix, 0⟩) M' = some (.int .i64 a.ty) := by
  rw [load_one (a := ⟨lv, ix, 0⟩) (r := ⟨90, 18, (TellR.cells a vn vd), false, false⟩) ti3 rfl (by unfold getRow; simp only [h])]; rfl
theorem wl0_0  : loadA Try.prog 3 (.ptr ⟨S.length + 1, 0, 0⟩) ⟨H, (Block.row ⟨90, 18, (TellR.cells a vn vd), false, false⟩ :: F) :: S⟩ = some (.int .i64 a.ty) := by
  have h := wl0 (a := a) (gt0 (H := H) (S := S) (F := F) (X := Block.row ⟨90, 18, (TellR.cells a vn vd), false, false⟩))
  exact h
theorem wl0_1  : loadA Try.prog 3 (.ptr ⟨S.length + 1, 1, 0⟩) ⟨H, (B0 :: Block.row ⟨90, 18, (TellR.cells a vn vd), false, false⟩ :: F) :: S⟩ = some (.int .i64 a.ty) := by
  have h := wl0 (a := a) (gt1 (H := H) (S := S) (F := F) (X := Block.row ⟨90, 18, (TellR.cells a vn vd), false, false⟩) (B0 := B0))
  exact h
theorem wl0_2  : loadA Try.prog 3 (.ptr ⟨S.length + 1, 2, 0⟩) ⟨H, (B0 :: B1 :: Block.row ⟨90, 18, (TellR.cells a vn vd), false, false⟩ :: F) :: S⟩ = some (.int .i64 a.ty) := by
  have h := wl0 (a := a) (gt2 (H := H) (S := S) (F := F) (X := Block.row ⟨90, 18, (TellR.cells a vn vd), false, false⟩) (B0 := B0) (B1 := B1))
  exact h
theorem ws0 {n : Int} (h : M'.get lv ix = some (Block.row ⟨90, 18, (TellR.cells a vn vd), false, false⟩)) : stores Try.prog 3 (.ptr ⟨lv, ix, 0⟩) (.int .i64 n) M' = some (.undef, M'.set lv ix (Block.row ⟨90, 18, (TellR.cells {a with ty := n} vn vd), false, false⟩)) := by
  rw [store_cell (a := ⟨lv, ix, 0⟩) (r := ⟨90, 18, (TellR.cells a vn vd), false, false⟩) ti3 (by unfold getRow; simp only [h]) rfl rfl rfl (show 0 % 18 + 1 ≤ 18 by decide) rfl rfl]; rfl
theorem ws0_0 {n : Int} : stores Try.prog 3 (.ptr ⟨S.length + 1, 0, 0⟩) (.int .i64 n) ⟨H, (Block.row ⟨90, 18, (TellR.cells a vn vd), false, false⟩ :: F) :: S⟩ = some (.undef, ⟨H, (Block.row ⟨90, 18, (TellR.cells {a with ty := n} vn vd), false, false⟩ :: F) :: S⟩) := by
  have h := ws0 (a := a) (n := n) (gt0 (H := H) (S := S) (F := F) (X := Block.row ⟨90, 18, (TellR.cells a vn vd), false, false⟩))
  rw [sg0] at h; exact h
theorem ws0_1 {n : Int} : stores Try.prog 3 (.ptr ⟨S.length + 1, 1, 0⟩) (.int .i64 n) ⟨H, (B0 :: Block.row ⟨90, 18, (TellR.cells a vn vd), false, false⟩ :: F) :: S⟩ = some (.undef, ⟨H, (B0 :: Block.row ⟨90, 18, (TellR.cells {a with ty := n} vn vd), false, false⟩ :: F) :: S⟩) := by
  have h := ws0 (a := a) (n := n) (gt1 (H := H) (S := S) (F := F) (X := Block.row ⟨90, 18, (TellR.cells a vn vd), false, false⟩) (B0 := B0))
  rw [sg1] at h; exact h
theorem ws0_2 {n : Int} : stores Try.prog 3 (.ptr ⟨S.length + 1, 2, 0⟩) (.int .i64 n) ⟨H, (B0 :: B1 :: Block.row ⟨90, 18, (TellR.cells a vn vd), false, false⟩ :: F) :: S⟩ = some (.undef, ⟨H, (B0 :: B1 :: Block.row ⟨90, 18, (TellR.cells {a with ty := n} vn vd), false, false⟩ :: F) :: S⟩) := by
  have h := ws0 (a := a) (n := n) (gt2 (H := H) (S := S) (F := F) (X := Block.row ⟨90, 18, (TellR.cells a vn vd), false, false⟩) (B0 := B0) (B1 := B1))
  rw [sg2] at h; exact h
theorem wl1  (h : M'.get lv ix = some (Block.row ⟨90, 18, (TellR.cells a vn vd), false, false⟩)) : loadA Try.prog 3 (.ptr ⟨lv, ix, 1⟩) M' = some (.int .i64 a.tag) := by
  rw [load_one (a := ⟨lv, ix, 1⟩) (r := ⟨90, 18, (TellR.cells a vn vd), false, false⟩) ti3 rfl (by unfold getRow; simp only [h])]; rfl
theorem wl1_0  : loadA Try.prog 3 (.ptr ⟨S.length + 1, 0, 1⟩) ⟨H, (Block.row ⟨90, 18, (TellR.cells a vn vd), false, false⟩ :: F) :: S⟩ = some (.int .i64 a.tag) := by
  have h := wl1 (a := a) (gt0 (H := H) (S := S) (F := F) (X := Block.row ⟨90, 18, (TellR.cells a vn vd), false, false⟩))
  exact h
theorem wl1_1  : loadA Try.prog 3 (.ptr ⟨S.length + 1, 1, 1⟩) ⟨H, (B0 :: Block.row ⟨90, 18, (TellR.cells a vn vd), false, false⟩ :: F) :: S⟩ = some (.int .i64 a.tag) := by
  have h := wl1 (a := a) (gt1 (H := H) (S := S) (F := F) (X := Block.row ⟨90, 18, (TellR.cells a vn vd), false, false⟩) (B0 := B0))
  exact h
theorem wl1_2  : loadA Try.prog 3 (.ptr ⟨S.length + 1, 2, 1⟩) ⟨H, (B0 :: B1 :: Block.row ⟨90, 18, (TellR.cells a vn vd), false, false⟩ :: F) :: S⟩ = some (.int .i64 a.tag) := by
  have h := wl1 (a := a) (gt2 (H := H) (S := S) (F := F) (X := Block.row ⟨90, 18, (TellR.cells a vn vd), false, false⟩) (B0 := B0) (B1 := B1))
  exact h
theorem ws1 {n : Int} (h : M'.get lv ix = some (Block.row ⟨90, 18, (TellR.cells a vn vd), false, false⟩)) : stores Try.prog 3 (.ptr ⟨lv, ix, 1⟩) (.int .i64 n) M' = some (.undef, M'.set lv ix (Block.row ⟨90, 18, (TellR.cells {a with tag := n} vn vd), false, false⟩)) := by
  rw [store_cell (a := ⟨lv, ix, 1⟩) (r := ⟨90, 18, (TellR.cells a vn vd), false, false⟩) ti3 (by unfold getRow; simp only [h]) rfl rfl rfl (show 1 % 18 + 1 ≤ 18 by decide) rfl rfl]; rfl
theorem ws1_0 {n : Int} : stores Try.prog 3 (.ptr ⟨S.length + 1, 0, 1⟩) (.int .i64 n) ⟨H, (Block.row ⟨90, 18, (TellR.cells a vn vd), false, false⟩ :: F) :: S⟩ = some (.undef, ⟨H, (Block.row ⟨90, 18, (TellR.cells {a with tag := n} vn vd), false, false⟩ :: F) :: S⟩) := by
  have h := ws1 (a := a) (n := n) (gt0 (H := H) (S := S) (F := F) (X := Block.row ⟨90, 18, (TellR.cells a vn vd), false, false⟩))
  rw [sg0] at h; exact h
theorem ws1_1 {n : Int} : stores Try.prog 3 (.ptr ⟨S.length + 1, 1, 1⟩) (.int .i64 n) ⟨H, (B0 :: Block.row ⟨90, 18, (TellR.cells a vn vd), false, false⟩ :: F) :: S⟩ = some (.undef, ⟨H, (B0 :: Block.row ⟨90, 18, (TellR.cells {a with tag := n} vn vd), false, false⟩ :: F) :: S⟩) := by
  have h := ws1 (a := a) (n := n) (gt1 (H := H) (S := S) (F := F) (X := Block.row ⟨90, 18, (TellR.cells a vn vd), false, false⟩) (B0 := B0))
  rw [sg1] at h; exact h
theorem ws1_2 {n : Int} : stores Try.prog 3 (.ptr ⟨S.length + 1, 2, 1⟩) (.int .i64 n) ⟨H, (B0 :: B1 :: Block.row ⟨90, 18, (TellR.cells a vn vd), false, false⟩ :: F) :: S⟩ = some (.undef, ⟨H, (B0 :: B1 :: Block.row ⟨90, 18, (TellR.cells {a with tag := n} vn vd), false, false⟩ :: F) :: S⟩) := by
  have h := ws1 (a := a) (n := n) (gt2 (H := H) (S := S) (F := F) (X := Block.row ⟨90, 18, (TellR.cells a vn vd), false, false⟩) (B0 := B0) (B1 := B1))
  rw [sg2] at h; exact h
theorem wl2  (h : M'.get lv ix = some (Block.row ⟨90, 18, (TellR.cells a vn vd), false, false⟩)) : loadA Try.prog 3 (.ptr ⟨lv, ix, 2⟩) M' = some (.int .i64 a.code) := by
  rw [load_one (a := ⟨lv, ix, 2⟩) (r := ⟨90, 18, (TellR.cells a vn vd), false, false⟩) ti3 rfl (by unfold getRow; simp only [h])]; rfl
theorem wl2_0  : loadA Try.prog 3 (.ptr ⟨S.length + 1, 0, 2⟩) ⟨H, (Block.row ⟨90, 18, (TellR.cells a vn vd), false, false⟩ :: F) :: S⟩ = some (.int .i64 a.code) := by
  have h := wl2 (a := a) (gt0 (H := H) (S := S) (F := F) (X := Block.row ⟨90, 18, (TellR.cells a vn vd), false, false⟩))
  exact h
theorem wl2_1  : loadA Try.prog 3 (.ptr ⟨S.length + 1, 1, 2⟩) ⟨H, (B0 :: Block.row ⟨90, 18, (TellR.cells a vn vd), false, false⟩ :: F) :: S⟩ = some (.int .i64 a.code) := by
  have h := wl2 (a := a) (gt1 (H := H) (S := S) (F := F) (X := Block.row ⟨90, 18, (TellR.cells a vn vd), false, false⟩) (B0 := B0))
  exact h
theorem wl2_2  : loadA Try.prog 3 (.ptr ⟨S.length + 1, 2, 2⟩) ⟨H, (B0 :: B1 :: Block.row ⟨90, 18, (TellR.cells a vn vd), false, false⟩ :: F) :: S⟩ = some (.int .i64 a.code) := by
  have h := wl2 (a := a) (gt2 (H := H) (S := S) (F := F) (X := Block.row ⟨90, 18, (TellR.cells a vn vd), false, false⟩) (B0 := B0) (B1 := B1))
  exact h
theorem ws2 {n : Int} (h : M'.get lv ix = some (Block.row ⟨90, 18, (TellR.cells a vn vd), false, false⟩)) : stores Try.prog 3 (.ptr ⟨lv, ix, 2⟩) (.int .i64 n) M' = some (.undef, M'.set lv ix (Block.row ⟨90, 18, (TellR.cells {a with code := n} vn vd), false, false⟩)) := by
  rw [store_cell (a := ⟨lv, ix, 2⟩) (r := ⟨90, 18, (TellR.cells a vn vd), false, false⟩) ti3 (by unfold getRow; simp only [h]) rfl rfl rfl (show 2 % 18 + 1 ≤ 18 by decide) rfl rfl]; rfl
theorem ws2_0 {n : Int} : stores Try.prog 3 (.ptr ⟨S.length + 1, 0, 2⟩) (.int .i64 n) ⟨H, (Block.row ⟨90, 18, (TellR.cells a vn vd), false, false⟩ :: F) :: S⟩ = some (.undef, ⟨H, (Block.row ⟨90, 18, (TellR.cells {a with code := n} vn vd), false, false⟩ :: F) :: S⟩) := by
  have h := ws2 (a := a) (n := n) (gt0 (H := H) (S := S) (F := F) (X := Block.row ⟨90, 18, (TellR.cells a vn vd), false, false⟩))
  rw [sg0] at h; exact h
theorem ws2_1 {n : Int} : stores Try.prog 3 (.ptr ⟨S.length + 1, 1, 2⟩) (.int .i64 n) ⟨H, (B0 :: Block.row ⟨90, 18, (TellR.cells a vn vd), false, false⟩ :: F) :: S⟩ = some (.undef, ⟨H, (B0 :: Block.row ⟨90, 18, (TellR.cells {a with code := n} vn vd), false, false⟩ :: F) :: S⟩) := by
  have h := ws2 (a := a) (n := n) (gt1 (H := H) (S := S) (F := F) (X := Block.row ⟨90, 18, (TellR.cells a vn vd), false, false⟩) (B0 := B0))
  rw [sg1] at h; exact h
theorem ws2_2 {n : Int} : stores Try.prog 3 (.ptr ⟨S.length + 1, 2, 2⟩) (.int .i64 n) ⟨H, (B0 :: B1 :: Block.row ⟨90, 18, (TellR.cells a vn vd), false, false⟩ :: F) :: S⟩ = some (.undef, ⟨H, (B0 :: B1 :: Block.row ⟨90, 18, (TellR.cells {a with code := n} vn vd), false, false⟩ :: F) :: S⟩) := by
  have h := ws2 (a := a) (n := n) (gt2 (H := H) (S := S) (F := F) (X := Block.row ⟨90, 18, (TellR.cells a vn vd), false, false⟩) (B0 := B0) (B1 := B1))
  rw [sg2] at h; exact h
theorem wl3  (h : M'.get lv ix = some (Block.row ⟨90, 18, (TellR.cells a vn vd), false, false⟩)) : loadA Try.prog 3 (.ptr ⟨lv, ix, 3⟩) M' = some (.int .i64 a.msize) := by
  rw [load_one (a := ⟨lv, ix, 3⟩) (r := ⟨90, 18, (TellR.cells a vn vd), false, false⟩) ti3 rfl (by unfold getRow; simp only [h])]; rfl
theorem wl3_0  : loadA Try.prog 3 (.ptr ⟨S.length + 1, 0, 3⟩) ⟨H, (Block.row ⟨90, 18, (TellR.cells a vn vd), false, false⟩ :: F) :: S⟩ = some (.int .i64 a.msize) := by
  have h := wl3 (a := a) (gt0 (H := H) (S := S) (F := F) (X := Block.row ⟨90, 18, (TellR.cells a vn vd), false, false⟩))
  exact h
theorem wl3_1  : loadA Try.prog 3 (.ptr ⟨S.length + 1, 1, 3⟩) ⟨H, (B0 :: Block.row ⟨90, 18, (TellR.cells a vn vd), false, false⟩ :: F) :: S⟩ = some (.int .i64 a.msize) := by
  have h := wl3 (a := a) (gt1 (H := H) (S := S) (F := F) (X := Block.row ⟨90, 18, (TellR.cells a vn vd), false, false⟩) (B0 := B0))
  exact h
theorem wl3_2  : loadA Try.prog 3 (.ptr ⟨S.length + 1, 2, 3⟩) ⟨H, (B0 :: B1 :: Block.row ⟨90, 18, (TellR.cells a vn vd), false, false⟩ :: F) :: S⟩ = some (.int .i64 a.msize) := by
  have h := wl3 (a := a) (gt2 (H := H) (S := S) (F := F) (X := Block.row ⟨90, 18, (TellR.cells a vn vd), false, false⟩) (B0 := B0) (B1 := B1))
  exact h
theorem ws3 {n : Int} (h : M'.get lv ix = some (Block.row ⟨90, 18, (TellR.cells a vn vd), false, false⟩)) : stores Try.prog 3 (.ptr ⟨lv, ix, 3⟩) (.int .i64 n) M' = some (.undef, M'.set lv ix (Block.row ⟨90, 18, (TellR.cells {a with msize := n} vn vd), false, false⟩)) := by
  rw [store_cell (a := ⟨lv, ix, 3⟩) (r := ⟨90, 18, (TellR.cells a vn vd), false, false⟩) ti3 (by unfold getRow; simp only [h]) rfl rfl rfl (show 3 % 18 + 1 ≤ 18 by decide) rfl rfl]; rfl
theorem ws3_0 {n : Int} : stores Try.prog 3 (.ptr ⟨S.length + 1, 0, 3⟩) (.int .i64 n) ⟨H, (Block.row ⟨90, 18, (TellR.cells a vn vd), false, false⟩ :: F) :: S⟩ = some (.undef, ⟨H, (Block.row ⟨90, 18, (TellR.cells {a with msize := n} vn vd), false, false⟩ :: F) :: S⟩) := by
  have h := ws3 (a := a) (n := n) (gt0 (H := H) (S := S) (F := F) (X := Block.row ⟨90, 18, (TellR.cells a vn vd), false, false⟩))
  rw [sg0] at h; exact h
theorem ws3_1 {n : Int} : stores Try.prog 3 (.ptr ⟨S.length + 1, 1, 3⟩) (.int .i64 n) ⟨H, (B0 :: Block.row ⟨90, 18, (TellR.cells a vn vd), false, false⟩ :: F) :: S⟩ = some (.undef, ⟨H, (B0 :: Block.row ⟨90, 18, (TellR.cells {a with msize := n} vn vd), false, false⟩ :: F) :: S⟩) := by
  have h := ws3 (a := a) (n := n) (gt1 (H := H) (S := S) (F := F) (X := Block.row ⟨90, 18, (TellR.cells a vn vd), false, false⟩) (B0 := B0))
  rw [sg1] at h; exact h
theorem ws3_2 {n : Int} : stores Try.prog 3 (.ptr ⟨S.length + 1, 2, 3⟩) (.int .i64 n) ⟨H, (B0 :: B1 :: Block.row ⟨90, 18, (TellR.cells a vn vd), false, false⟩ :: F) :: S⟩ = some (.undef, ⟨H, (B0 :: B1 :: Block.row ⟨90, 18, (TellR.cells {a with msize := n} vn vd), false, false⟩ :: F) :: S⟩) := by
  have h := ws3 (a := a) (n := n) (gt2 (H := H) (S := S) (F := F) (X := Block.row ⟨90, 18, (TellR.cells a vn vd), false, false⟩) (B0 := B0) (B1 := B1))
  rw [sg2] at h; exact h
theorem wl4  (h : M'.get lv ix = some (Block.row ⟨90, 18, (TellR.cells a vn vd), false, false⟩)) : loadA Try.prog 3 (.ptr ⟨lv, ix, 4⟩) M' = some (.int .i64 a.iounit) := by
  rw [load_one (a := ⟨lv, ix, 4⟩) (r := ⟨90, 18, (TellR.cells a vn vd), false, false⟩) ti3 rfl (by unfold getRow; simp only [h])]; rfl
theorem wl4_0  : loadA Try.prog 3 (.ptr ⟨S.length + 1, 0, 4⟩) ⟨H, (Block.row ⟨90, 18, (TellR.cells a vn vd), false, false⟩ :: F) :: S⟩ = some (.int .i64 a.iounit) := by
  have h := wl4 (a := a) (gt0 (H := H) (S := S) (F := F) (X := Block.row ⟨90, 18, (TellR.cells a vn vd), false, false⟩))
  exact h
theorem wl4_1  : loadA Try.prog 3 (.ptr ⟨S.length + 1, 1, 4⟩) ⟨H, (B0 :: Block.row ⟨90, 18, (TellR.cells a vn vd), false, false⟩ :: F) :: S⟩ = some (.int .i64 a.iounit) := by
  have h := wl4 (a := a) (gt1 (H := H) (S := S) (F := F) (X := Block.row ⟨90, 18, (TellR.cells a vn vd), false, false⟩) (B0 := B0))
  exact h
theorem wl4_2  : loadA Try.prog 3 (.ptr ⟨S.length + 1, 2, 4⟩) ⟨H, (B0 :: B1 :: Block.row ⟨90, 18, (TellR.cells a vn vd), false, false⟩ :: F) :: S⟩ = some (.int .i64 a.iounit) := by
  have h := wl4 (a := a) (gt2 (H := H) (S := S) (F := F) (X := Block.row ⟨90, 18, (TellR.cells a vn vd), false, false⟩) (B0 := B0) (B1 := B1))
  exact h
theorem ws4 {n : Int} (h : M'.get lv ix = some (Block.row ⟨90, 18, (TellR.cells a vn vd), false, false⟩)) : stores Try.prog 3 (.ptr ⟨lv, ix, 4⟩) (.int .i64 n) M' = some (.undef, M'.set lv ix (Block.row ⟨90, 18, (TellR.cells {a with iounit := n} vn vd), false, false⟩)) := by
  rw [store_cell (a := ⟨lv, ix, 4⟩) (r := ⟨90, 18, (TellR.cells a vn vd), false, false⟩) ti3 (by unfold getRow; simp only [h]) rfl rfl rfl (show 4 % 18 + 1 ≤ 18 by decide) rfl rfl]; rfl
theorem ws4_0 {n : Int} : stores Try.prog 3 (.ptr ⟨S.length + 1, 0, 4⟩) (.int .i64 n) ⟨H, (Block.row ⟨90, 18, (TellR.cells a vn vd), false, false⟩ :: F) :: S⟩ = some (.undef, ⟨H, (Block.row ⟨90, 18, (TellR.cells {a with iounit := n} vn vd), false, false⟩ :: F) :: S⟩) := by
  have h := ws4 (a := a) (n := n) (gt0 (H := H) (S := S) (F := F) (X := Block.row ⟨90, 18, (TellR.cells a vn vd), false, false⟩))
  rw [sg0] at h; exact h
theorem ws4_1 {n : Int} : stores Try.prog 3 (.ptr ⟨S.length + 1, 1, 4⟩) (.int .i64 n) ⟨H, (B0 :: Block.row ⟨90, 18, (TellR.cells a vn vd), false, false⟩ :: F) :: S⟩ = some (.undef, ⟨H, (B0 :: Block.row ⟨90, 18, (TellR.cells {a with iounit := n} vn vd), false, false⟩ :: F) :: S⟩) := by
  have h := ws4 (a := a) (n := n) (gt1 (H := H) (S := S) (F := F) (X := Block.row ⟨90, 18, (TellR.cells a vn vd), false, false⟩) (B0 := B0))
  rw [sg1] at h; exact h
theorem ws4_2 {n : Int} : stores Try.prog 3 (.ptr ⟨S.length + 1, 2, 4⟩) (.int .i64 n) ⟨H, (B0 :: B1 :: Block.row ⟨90, 18, (TellR.cells a vn vd), false, false⟩ :: F) :: S⟩ = some (.undef, ⟨H, (B0 :: B1 :: Block.row ⟨90, 18, (TellR.cells {a with iounit := n} vn vd), false, false⟩ :: F) :: S⟩) := by
  have h := ws4 (a := a) (n := n) (gt2 (H := H) (S := S) (F := F) (X := Block.row ⟨90, 18, (TellR.cells a vn vd), false, false⟩) (B0 := B0) (B1 := B1))
  rw [sg2] at h; exact h
theorem wl5  (h : M'.get lv ix = some (Block.row ⟨90, 18, (TellR.cells a vn vd), false, false⟩)) : loadA Try.prog 3 (.ptr ⟨lv, ix, 5⟩) M' = some (.int .i64 a.count) := by
  rw [load_one (a := ⟨lv, ix, 5⟩) (r := ⟨90, 18, (TellR.cells a vn vd), false, false⟩) ti3 rfl (by unfold getRow; simp only [h])]; rfl
theorem wl5_0  : loadA Try.prog 3 (.ptr ⟨S.length + 1, 0, 5⟩) ⟨H, (Block.row ⟨90, 18, (TellR.cells a vn vd), false, false⟩ :: F) :: S⟩ = some (.int .i64 a.count) := by
  have h := wl5 (a := a) (gt0 (H := H) (S := S) (F := F) (X := Block.row ⟨90, 18, (TellR.cells a vn vd), false, false⟩))
  exact h
theorem wl5_1  : loadA Try.prog 3 (.ptr ⟨S.length + 1, 1, 5⟩) ⟨H, (B0 :: Block.row ⟨90, 18, (TellR.cells a vn vd), false, false⟩ :: F) :: S⟩ = some (.int .i64 a.count) := by
  have h := wl5 (a := a) (gt1 (H := H) (S := S) (F := F) (X := Block.row ⟨90, 18, (TellR.cells a vn vd), false, false⟩) (B0 := B0))
  exact h
theorem wl5_2  : loadA Try.prog 3 (.ptr ⟨S.length + 1, 2, 5⟩) ⟨H, (B0 :: B1 :: Block.row ⟨90, 18, (TellR.cells a vn vd), false, false⟩ :: F) :: S⟩ = some (.int .i64 a.count) := by
  have h := wl5 (a := a) (gt2 (H := H) (S := S) (F := F) (X := Block.row ⟨90, 18, (TellR.cells a vn vd), false, false⟩) (B0 := B0) (B1 := B1))
  exact h
theorem ws5 {n : Int} (h : M'.get lv ix = some (Block.row ⟨90, 18, (TellR.cells a vn vd), false, false⟩)) : stores Try.prog 3 (.ptr ⟨lv, ix, 5⟩) (.int .i64 n) M' = some (.undef, M'.set lv ix (Block.row ⟨90, 18, (TellR.cells {a with count := n} vn vd), false, false⟩)) := by
  rw [store_cell (a := ⟨lv, ix, 5⟩) (r := ⟨90, 18, (TellR.cells a vn vd), false, false⟩) ti3 (by unfold getRow; simp only [h]) rfl rfl rfl (show 5 % 18 + 1 ≤ 18 by decide) rfl rfl]; rfl
theorem ws5_0 {n : Int} : stores Try.prog 3 (.ptr ⟨S.length + 1, 0, 5⟩) (.int .i64 n) ⟨H, (Block.row ⟨90, 18, (TellR.cells a vn vd), false, false⟩ :: F) :: S⟩ = some (.undef, ⟨H, (Block.row ⟨90, 18, (TellR.cells {a with count := n} vn vd), false, false⟩ :: F) :: S⟩) := by
  have h := ws5 (a := a) (n := n) (gt0 (H := H) (S := S) (F := F) (X := Block.row ⟨90, 18, (TellR.cells a vn vd), false, false⟩))
  rw [sg0] at h; exact h
theorem ws5_1 {n : Int} : stores Try.prog 3 (.ptr ⟨S.length + 1, 1, 5⟩) (.int .i64 n) ⟨H, (B0 :: Block.row ⟨90, 18, (TellR.cells a vn vd), false, false⟩ :: F) :: S⟩ = some (.undef, ⟨H, (B0 :: Block.row ⟨90, 18, (TellR.cells {a with count := n} vn vd), false, false⟩ :: F) :: S⟩) := by
  have h := ws5 (a := a) (n := n) (gt1 (H := H) (S := S) (F := F) (X := Block.row ⟨90, 18, (TellR.cells a vn vd), false, false⟩) (B0 := B0))
  rw [sg1] at h; exact h
theorem ws5_2 {n : Int} : stores Try.prog 3 (.ptr ⟨S.length + 1, 2, 5⟩) (.int .i64 n) ⟨H, (B0 :: B1 :: Block.row ⟨90, 18, (TellR.cells a vn vd), false, false⟩ :: F) :: S⟩ = some (.undef, ⟨H, (B0 :: B1 :: Block.row ⟨90, 18, (TellR.cells {a with count := n} vn vd), false, false⟩ :: F) :: S⟩) := by
  have h := ws5 (a := a) (n := n) (gt2 (H := H) (S := S) (F := F) (X := Block.row ⟨90, 18, (TellR.cells a vn vd), false, false⟩) (B0 := B0) (B1 := B1))
  rw [sg2] at h; exact h
theorem wl6  (h : M'.get lv ix = some (Block.row ⟨90, 18, (TellR.cells a vn vd), false, false⟩)) : loadA Try.prog 9 (.ptr ⟨lv, ix, 6⟩) M' = some (.str a.name) := by
  rw [load_one (a := ⟨lv, ix, 6⟩) (r := ⟨90, 18, (TellR.cells a vn vd), false, false⟩) ti9 rfl (by unfold getRow; simp only [h])]; rfl
theorem wl6_0  : loadA Try.prog 9 (.ptr ⟨S.length + 1, 0, 6⟩) ⟨H, (Block.row ⟨90, 18, (TellR.cells a vn vd), false, false⟩ :: F) :: S⟩ = some (.str a.name) := by
  have h := wl6 (a := a) (gt0 (H := H) (S := S) (F := F) (X := Block.row ⟨90, 18, (TellR.cells a vn vd), false, false⟩))
  exact h
theorem wl6_1  : loadA Try.prog 9 (.ptr ⟨S.length + 1, 1, 6⟩) ⟨H, (B0 :: Block.row ⟨90, 18, (TellR.cells a vn vd), false, false⟩ :: F) :: S⟩ = some (.str a.name) := by
  have h := wl6 (a := a) (gt1 (H := H) (S := S) (F := F) (X := Block.row ⟨90, 18, (TellR.cells a vn vd), false, false⟩) (B0 := B0))
  exact h
theorem wl6_2  : loadA Try.prog 9 (.ptr ⟨S.length + 1, 2, 6⟩) ⟨H, (B0 :: B1 :: Block.row ⟨90, 18, (TellR.cells a vn vd), false, false⟩ :: F) :: S⟩ = some (.str a.name) := by
  have h := wl6 (a := a) (gt2 (H := H) (S := S) (F := F) (X := Block.row ⟨90, 18, (TellR.cells a vn vd), false, false⟩) (B0 := B0) (B1 := B1))
  exact h
theorem ws6 {n : List UInt8} (h : M'.get lv ix = some (Block.row ⟨90, 18, (TellR.cells a vn vd), false, false⟩)) : stores Try.prog 9 (.ptr ⟨lv, ix, 6⟩) (.str n) M' = some (.undef, M'.set lv ix (Block.row ⟨90, 18, (TellR.cells {a with name := n} vn vd), false, false⟩)) := by
  rw [store_cell (a := ⟨lv, ix, 6⟩) (r := ⟨90, 18, (TellR.cells a vn vd), false, false⟩) ti9 (by unfold getRow; simp only [h]) rfl rfl rfl (show 6 % 18 + 1 ≤ 18 by decide) rfl rfl]; rfl
theorem ws6_0 {n : List UInt8} : stores Try.prog 9 (.ptr ⟨S.length + 1, 0, 6⟩) (.str n) ⟨H, (Block.row ⟨90, 18, (TellR.cells a vn vd), false, false⟩ :: F) :: S⟩ = some (.undef, ⟨H, (Block.row ⟨90, 18, (TellR.cells {a with name := n} vn vd), false, false⟩ :: F) :: S⟩) := by
  have h := ws6 (a := a) (n := n) (gt0 (H := H) (S := S) (F := F) (X := Block.row ⟨90, 18, (TellR.cells a vn vd), false, false⟩))
  rw [sg0] at h; exact h
theorem ws6_1 {n : List UInt8} : stores Try.prog 9 (.ptr ⟨S.length + 1, 1, 6⟩) (.str n) ⟨H, (B0 :: Block.row ⟨90, 18, (TellR.cells a vn vd), false, false⟩ :: F) :: S⟩ = some (.undef, ⟨H, (B0 :: Block.row ⟨90, 18, (TellR.cells {a with name := n} vn vd), false, false⟩ :: F) :: S⟩) := by
  have h := ws6 (a := a) (n := n) (gt1 (H := H) (S := S) (F := F) (X := Block.row ⟨90, 18, (TellR.cells a vn vd), false, false⟩) (B0 := B0))
  rw [sg1] at h; exact h
theorem ws6_2 {n : List UInt8} : stores Try.prog 9 (.ptr ⟨S.length + 1, 2, 6⟩) (.str n) ⟨H, (B0 :: B1 :: Block.row ⟨90, 18, (TellR.cells a vn vd), false, false⟩ :: F) :: S⟩ = some (.undef, ⟨H, (B0 :: B1 :: Block.row ⟨90, 18, (TellR.cells {a with name := n} vn vd), false, false⟩ :: F) :: S⟩) := by
  have h := ws6 (a := a) (n := n) (gt2 (H := H) (S := S) (F := F) (X := Block.row ⟨90, 18, (TellR.cells a vn vd), false, false⟩) (B0 := B0) (B1 := B1))
  rw [sg2] at h; exact h
theorem wl7  (h : M'.get lv ix = some (Block.row ⟨90, 18, (TellR.cells a vn vd), false, false⟩)) : loadA Try.prog 4 (.ptr ⟨lv, ix, 7⟩) M' = some (.bool a.q.dir) := by
  rw [load_one (a := ⟨lv, ix, 7⟩) (r := ⟨90, 18, (TellR.cells a vn vd), false, false⟩) ti4 rfl (by unfold getRow; simp only [h])]; rfl
theorem wl7_0  : loadA Try.prog 4 (.ptr ⟨S.length + 1, 0, 7⟩) ⟨H, (Block.row ⟨90, 18, (TellR.cells a vn vd), false, false⟩ :: F) :: S⟩ = some (.bool a.q.dir) := by
  have h := wl7 (a := a) (gt0 (H := H) (S := S) (F := F) (X := Block.row ⟨90, 18, (TellR.cells a vn vd), false, false⟩))
  exact h
theorem wl7_1  : loadA Try.prog 4 (.ptr ⟨S.length + 1, 1, 7⟩) ⟨H, (B0 :: Block.row ⟨90, 18, (TellR.cells a vn vd), false, false⟩ :: F) :: S⟩ = some (.bool a.q.dir) := by
  have h := wl7 (a := a) (gt1 (H := H) (S := S) (F := F) (X := Block.row ⟨90, 18, (TellR.cells a vn vd), false, false⟩) (B0 := B0))
  exact h
theorem wl7_2  : loadA Try.prog 4 (.ptr ⟨S.length + 1, 2, 7⟩) ⟨H, (B0 :: B1 :: Block.row ⟨90, 18, (TellR.cells a vn vd), false, false⟩ :: F) :: S⟩ = some (.bool a.q.dir) := by
  have h := wl7 (a := a) (gt2 (H := H) (S := S) (F := F) (X := Block.row ⟨90, 18, (TellR.cells a vn vd), false, false⟩) (B0 := B0) (B1 := B1))
  exact h
theorem ws7 {n : Bool} (h : M'.get lv ix = some (Block.row ⟨90, 18, (TellR.cells a vn vd), false, false⟩)) : stores Try.prog 4 (.ptr ⟨lv, ix, 7⟩) (.bool n) M' = some (.undef, M'.set lv ix (Block.row ⟨90, 18, (TellR.cells {a with q.dir := n} vn vd), false, false⟩)) := by
  rw [store_cell (a := ⟨lv, ix, 7⟩) (r := ⟨90, 18, (TellR.cells a vn vd), false, false⟩) ti4 (by unfold getRow; simp only [h]) rfl rfl rfl (show 7 % 18 + 1 ≤ 18 by decide) rfl rfl]; rfl
theorem ws7_0 {n : Bool} : stores Try.prog 4 (.ptr ⟨S.length + 1, 0, 7⟩) (.bool n) ⟨H, (Block.row ⟨90, 18, (TellR.cells a vn vd), false, false⟩ :: F) :: S⟩ = some (.undef, ⟨H, (Block.row ⟨90, 18, (TellR.cells {a with q.dir := n} vn vd), false, false⟩ :: F) :: S⟩) := by
  have h := ws7 (a := a) (n := n) (gt0 (H := H) (S := S) (F := F) (X := Block.row ⟨90, 18, (TellR.cells a vn vd), false, false⟩))
  rw [sg0] at h; exact h
theorem ws7_1 {n : Bool} : stores Try.prog 4 (.ptr ⟨S.length + 1, 1, 7⟩) (.bool n) ⟨H, (B0 :: Block.row ⟨90, 18, (TellR.cells a vn vd), false, false⟩ :: F) :: S⟩ = some (.undef, ⟨H, (B0 :: Block.row ⟨90, 18, (TellR.cells {a with q.dir := n} vn vd), false, false⟩ :: F) :: S⟩) := by
  have h := ws7 (a := a) (n := n) (gt1 (H := H) (S := S) (F := F) (X := Block.row ⟨90, 18, (TellR.cells a vn vd), false, false⟩) (B0 := B0))
  rw [sg1] at h; exact h
theorem ws7_2 {n : Bool} : stores Try.prog 4 (.ptr ⟨S.length + 1, 2, 7⟩) (.bool n) ⟨H, (B0 :: B1 :: Block.row ⟨90, 18, (TellR.cells a vn vd), false, false⟩ :: F) :: S⟩ = some (.undef, ⟨H, (B0 :: B1 :: Block.row ⟨90, 18, (TellR.cells {a with q.dir := n} vn vd), false, false⟩ :: F) :: S⟩) := by
  have h := ws7 (a := a) (n := n) (gt2 (H := H) (S := S) (F := F) (X := Block.row ⟨90, 18, (TellR.cells a vn vd), false, false⟩) (B0 := B0) (B1 := B1))
  rw [sg2] at h; exact h
theorem wl8  (h : M'.get lv ix = some (Block.row ⟨90, 18, (TellR.cells a vn vd), false, false⟩)) : loadA Try.prog 3 (.ptr ⟨lv, ix, 8⟩) M' = some (.int .i64 a.q.ver) := by
  rw [load_one (a := ⟨lv, ix, 8⟩) (r := ⟨90, 18, (TellR.cells a vn vd), false, false⟩) ti3 rfl (by unfold getRow; simp only [h])]; rfl
theorem wl8_0  : loadA Try.prog 3 (.ptr ⟨S.length + 1, 0, 8⟩) ⟨H, (Block.row ⟨90, 18, (TellR.cells a vn vd), false, false⟩ :: F) :: S⟩ = some (.int .i64 a.q.ver) := by
  have h := wl8 (a := a) (gt0 (H := H) (S := S) (F := F) (X := Block.row ⟨90, 18, (TellR.cells a vn vd), false, false⟩))
  exact h
theorem wl8_1  : loadA Try.prog 3 (.ptr ⟨S.length + 1, 1, 8⟩) ⟨H, (B0 :: Block.row ⟨90, 18, (TellR.cells a vn vd), false, false⟩ :: F) :: S⟩ = some (.int .i64 a.q.ver) := by
  have h := wl8 (a := a) (gt1 (H := H) (S := S) (F := F) (X := Block.row ⟨90, 18, (TellR.cells a vn vd), false, false⟩) (B0 := B0))
  exact h
theorem wl8_2  : loadA Try.prog 3 (.ptr ⟨S.length + 1, 2, 8⟩) ⟨H, (B0 :: B1 :: Block.row ⟨90, 18, (TellR.cells a vn vd), false, false⟩ :: F) :: S⟩ = some (.int .i64 a.q.ver) := by
  have h := wl8 (a := a) (gt2 (H := H) (S := S) (F := F) (X := Block.row ⟨90, 18, (TellR.cells a vn vd), false, false⟩) (B0 := B0) (B1 := B1))
  exact h
theorem ws8 {n : Int} (h : M'.get lv ix = some (Block.row ⟨90, 18, (TellR.cells a vn vd), false, false⟩)) : stores Try.prog 3 (.ptr ⟨lv, ix, 8⟩) (.int .i64 n) M' = some (.undef, M'.set lv ix (Block.row ⟨90, 18, (TellR.cells {a with q.ver := n} vn vd), false, false⟩)) := by
  rw [store_cell (a := ⟨lv, ix, 8⟩) (r := ⟨90, 18, (TellR.cells a vn vd), false, false⟩) ti3 (by unfold getRow; simp only [h]) rfl rfl rfl (show 8 % 18 + 1 ≤ 18 by decide) rfl rfl]; rfl
theorem ws8_0 {n : Int} : stores Try.prog 3 (.ptr ⟨S.length + 1, 0, 8⟩) (.int .i64 n) ⟨H, (Block.row ⟨90, 18, (TellR.cells a vn vd), false, false⟩ :: F) :: S⟩ = some (.undef, ⟨H, (Block.row ⟨90, 18, (TellR.cells {a with q.ver := n} vn vd), false, false⟩ :: F) :: S⟩) := by
  have h := ws8 (a := a) (n := n) (gt0 (H := H) (S := S) (F := F) (X := Block.row ⟨90, 18, (TellR.cells a vn vd), false, false⟩))
  rw [sg0] at h; exact h
theorem ws8_1 {n : Int} : stores Try.prog 3 (.ptr ⟨S.length + 1, 1, 8⟩) (.int .i64 n) ⟨H, (B0 :: Block.row ⟨90, 18, (TellR.cells a vn vd), false, false⟩ :: F) :: S⟩ = some (.undef, ⟨H, (B0 :: Block.row ⟨90, 18, (TellR.cells {a with q.ver := n} vn vd), false, false⟩ :: F) :: S⟩) := by
  have h := ws8 (a := a) (n := n) (gt1 (H := H) (S := S) (F := F) (X := Block.row ⟨90, 18, (TellR.cells a vn vd), false, false⟩) (B0 := B0))
  rw [sg1] at h; exact h
theorem ws8_2 {n : Int} : stores Try.prog 3 (.ptr ⟨S.length + 1, 2, 8⟩) (.int .i64 n) ⟨H, (B0 :: B1 :: Block.row ⟨90, 18, (TellR.cells a vn vd), false, false⟩ :: F) :: S⟩ = some (.undef, ⟨H, (B0 :: B1 :: Block.row ⟨90, 18, (TellR.cells {a with q.ver := n} vn vd), false, false⟩ :: F) :: S⟩) := by
  have h := ws8 (a := a) (n := n) (gt2 (H := H) (S := S) (F := F) (X := Block.row ⟨90, 18, (TellR.cells a vn vd), false, false⟩) (B0 := B0) (B1 := B1))
  rw [sg2] at h; exact h
theorem wl9  (h : M'.get lv ix = some (Block.row ⟨90, 18, (TellR.cells a vn vd), false, false⟩)) : loadA Try.prog 3 (.ptr ⟨lv, ix, 9⟩) M' = some (.int .i64 a.q.path) := by
  rw [load_one (a := ⟨lv, ix, 9⟩) (r := ⟨90, 18, (TellR.cells a vn vd), false, false⟩) ti3 rfl (by unfold getRow; simp only [h])]; rfl
theorem wl9_0  : loadA Try.prog 3 (.ptr ⟨S.length + 1, 0, 9⟩) ⟨H, (Block.row ⟨90, 18, (TellR.cells a vn vd), false, false⟩ :: F) :: S⟩ = some (.int .i64 a.q.path) := by
  have h := wl9 (a := a) (gt0 (H := H) (S := S) (F := F) (X := Block.row ⟨90, 18, (TellR.cells a vn vd), false, false⟩))
  exact h
theorem wl9_1  : loadA Try.prog 3 (.ptr ⟨S.length + 1, 1, 9⟩) ⟨H, (B0 :: Block.row ⟨90, 18, (TellR.cells a vn vd), false, false⟩ :: F) :: S⟩ = some (.int .i64 a.q.path) := by
  have h := wl9 (a := a) (gt1 (H := H) (S := S) (F := F) (X := Block.row ⟨90, 18, (TellR.cells a vn vd), false, false⟩) (B0 := B0))
  exact h
theorem wl9_2  : loadA Try.prog 3 (.ptr ⟨S.length + 1, 2, 9⟩) ⟨H, (B0 :: B1 :: Block.row ⟨90, 18, (TellR.cells a vn vd), false, false⟩ :: F) :: S⟩ = some (.int .i64 a.q.path) := by
  have h := wl9 (a := a) (gt2 (H := H) (S := S) (F := F) (X := Block.row ⟨90, 18, (TellR.cells a vn vd), false, false⟩) (B0 := B0) (B1 := B1))
  exact h
theorem ws9 {n : Int} (h : M'.get lv ix = some (Block.row ⟨90, 18, (TellR.cells a vn vd), false, false⟩)) : stores Try.prog 3 (.ptr ⟨lv, ix, 9⟩) (.int .i64 n) M' = some (.undef, M'.set lv ix (Block.row ⟨90, 18, (TellR.cells {a with q.path := n} vn vd), false, false⟩)) := by
  rw [store_cell (a := ⟨lv, ix, 9⟩) (r := ⟨90, 18, (TellR.cells a vn vd), false, false⟩) ti3 (by unfold getRow; simp only [h]) rfl rfl rfl (show 9 % 18 + 1 ≤ 18 by decide) rfl rfl]; rfl
theorem ws9_0 {n : Int} : stores Try.prog 3 (.ptr ⟨S.length + 1, 0, 9⟩) (.int .i64 n) ⟨H, (Block.row ⟨90, 18, (TellR.cells a vn vd), false, false⟩ :: F) :: S⟩ = some (.undef, ⟨H, (Block.row ⟨90, 18, (TellR.cells {a with q.path := n} vn vd), false, false⟩ :: F) :: S⟩) := by
  have h := ws9 (a := a) (n := n) (gt0 (H := H) (S := S) (F := F) (X := Block.row ⟨90, 18, (TellR.cells a vn vd), false, false⟩))
  rw [sg0] at h; exact h
theorem ws9_1 {n : Int} : stores Try.prog 3 (.ptr ⟨S.length + 1, 1, 9⟩) (.int .i64 n) ⟨H, (B0 :: Block.row ⟨90, 18, (TellR.cells a vn vd), false, false⟩ :: F) :: S⟩ = some (.undef, ⟨H, (B0 :: Block.row ⟨90, 18, (TellR.cells {a with q.path := n} vn vd), false, false⟩ :: F) :: S⟩) := by
  have h := ws9 (a := a) (n := n) (gt1 (H := H) (S := S) (F := F) (X := Block.row ⟨90, 18, (TellR.cells a vn vd), false, false⟩) (B0 := B0))
  rw [sg1] at h; exact h
theorem ws9_2 {n : Int} : stores Try.prog 3 (.ptr ⟨S.length + 1, 2, 9⟩) (.int .i64 n) ⟨H, (B0 :: B1 :: Block.row ⟨90, 18, (TellR.cells a vn vd), false, false⟩ :: F) :: S⟩ = some (.undef, ⟨H, (B0 :: B1 :: Block.row ⟨90, 18, (TellR.cells {a with q.path := n} vn vd), false, false⟩ :: F) :: S⟩) := by
  have h := ws9 (a := a) (n := n) (gt2 (H := H) (S := S) (F := F) (X := Block.row ⟨90, 18, (TellR.cells a vn vd), false, false⟩) (B0 := B0) (B1 := B1))
  rw [sg2] at h; exact h
theorem wl10  (h : M'.get lv ix = some (Block.row ⟨90, 18, (TellR.cells a vn vd), false, false⟩)) : loadA Try.prog 86 (.ptr ⟨lv, ix, 10⟩) M' = some (vn) := by
  rw [load_one (a := ⟨lv, ix, 10⟩) (r := ⟨90, 18, (TellR.cells a vn vd), false, false⟩) ti86 rfl (by unfold getRow; simp only [h])]; rfl
theorem wl10_0  : loadA Try.prog 86 (.ptr ⟨S.length + 1, 0, 10⟩) ⟨H, (Block.row ⟨90, 18, (TellR.cells a vn vd), false, false⟩ :: F) :: S⟩ = some (vn) := by
  have h := wl10 (a := a) (gt0 (H := H) (S := S) (F := F) (X := Block.row ⟨90, 18, (TellR.cells a vn vd), false, false⟩))
  exact h
theorem wl10_1  : loadA Try.prog 86 (.ptr ⟨S.length + 1, 1, 10⟩) ⟨H, (B0 :: Block.row ⟨90, 18, (TellR.cells a vn vd), false, false⟩ :: F) :: S⟩ = some (vn) := by
  have h := wl10 (a := a) (gt1 (H := H) (S := S) (F := F) (X := Block.row ⟨90, 18, (TellR.cells a vn vd), false, false⟩) (B0 := B0))
  exact h
theorem wl10_2  : loadA Try.prog 86 (.ptr ⟨S.length + 1, 2, 10⟩) ⟨H, (B0 :: B1 :: Block.row ⟨90, 18, (TellR.cells a vn vd), false, false⟩ :: F) :: S⟩ = some (vn) := by
  have h := wl10 (a := a) (gt2 (H := H) (S := S) (F := F) (X := Block.row ⟨90, 18, (TellR.cells a vn vd), false, false⟩) (B0 := B0) (B1 := B1))
  exact h
theorem ws10 {x : AV} (hx : x.st = true) (hc : x.cells = [x]) (h : M'.get lv ix = some (Block.row ⟨90, 18, (TellR.cells a vn vd), false, false⟩)) : stores Try.prog 86 (.ptr ⟨lv, ix, 10⟩) (x) M' = some (.undef, M'.set lv ix (Block.row ⟨90, 18, (TellR.cells a x vd), false, false⟩)) := by
  rw [store_cell (a := ⟨lv, ix, 10⟩) (r := ⟨90, 18, (TellR.cells a vn vd), false, false⟩) ti86 (by unfold getRow; simp only [h]) rfl rfl rfl (show 10 % 18 + 1 ≤ 18 by decide) hx hc]; rfl
theorem ws10_0 {x : AV} (hx : x.st = true) (hc : x.cells = [x]) : stores Try.prog 86 (.ptr ⟨S.length + 1, 0, 10⟩) (x) ⟨H, (Block.row ⟨90, 18, (TellR.cells a vn vd), false, false⟩ :: F) :: S⟩ = some (.undef, ⟨H, (Block.row ⟨90, 18, (TellR.cells a x vd), false, false⟩ :: F) :: S⟩) := by
  have h := ws10 (a := a) (x := x) (hx := hx) (hc := hc) (gt0 (H := H) (S := S) (F := F) (X := Block.row ⟨90, 18, (TellR.cells a vn vd), false, false⟩))
  rw [sg0] at h; exact h
theorem ws10_1 {x : AV} (hx : x.st = true) (hc : x.cells = [x]) : stores Try.prog 86 (.ptr ⟨S.length + 1, 1, 10⟩) (x) ⟨H, (B0 :: Block.row ⟨90, 18, (TellR.cells a vn vd), false, false⟩ :: F) :: S⟩ = some (.undef, ⟨H, (B0 :: Block.row ⟨90, 18, (TellR.cells a x vd), false, false⟩ :: F) :: S⟩) := by
  have h := ws10 (a := a) (x := x) (hx := hx) (hc := hc) (gt1 (H := H) (S := S) (F := F) (X := Block.row ⟨90, 18, (TellR.cells a vn vd), false, false⟩) (B0 := B0))
  rw [sg1] at h; exact h
theorem ws10_2 {x : AV} (hx : x.st = true) (hc : x.cells = [x]) : stores Try.prog 86 (.ptr ⟨S.length + 1, 2, 10⟩) (x) ⟨H, (B0 :: B1 :: Block.row ⟨90, 18, (TellR.cells a vn vd), false, false⟩ :: F) :: S⟩ = some (.undef, ⟨H, (B0 :: B1 :: Block.row ⟨90, 18, (TellR.cells a x vd), false, false⟩ :: F) :: S⟩) := by
  have h := ws10 (a := a) (x := x) (hx := hx) (hc := hc) (gt2 (H := H) (S := S) (F := F) (X := Block.row ⟨90, 18, (TellR.cells a vn vd), false, false⟩) (B0 := B0) (B1 := B1))
  rw [sg2] at h; exact h
theorem wl11  (h : M'.get lv ix = some (Block.row ⟨90, 18, (TellR.cells a vn vd), false, false⟩)) : loadA Try.prog 22 (.ptr ⟨lv, ix, 11⟩) M' = some (vd) := by
  rw [load_one (a := ⟨lv, ix, 11⟩) (r := ⟨90, 18, (TellR.cells a vn vd), false, false⟩) ti22 rfl (by unfold getRow; simp only [h])]; rfl
theorem wl11_0  : loadA Try.prog 22 (.ptr ⟨S.length + 1, 0, 11⟩) ⟨H, (Block.row ⟨90, 18, (TellR.cells a vn vd), false, false⟩ :: F) :: S⟩ = some (vd) := by
  have h := wl11 (a := a) (gt0 (H := H) (S := S) (F := F) (X := Block.row ⟨90, 18, (TellR.cells a vn vd), false, false⟩))
  exact h
theorem wl11_1  : loadA Try.prog 22 (.ptr ⟨S.length + 1, 1, 11⟩) ⟨H, (B0 :: Block.row ⟨90, 18, (TellR.cells a vn vd), false, false⟩ :: F) :: S⟩ = some (vd) := by
  have h := wl11 (a := a) (gt1 (H := H) (S := S) (F := F) (X := Block.row ⟨90, 18, (TellR.cells a vn vd), false, false⟩) (B0 := B0))
  exact h
theorem wl11_2  : loadA Try.prog 22 (.ptr ⟨S.length + 1, 2, 11⟩) ⟨H, (B0 :: B1 :: Block.row ⟨90, 18, (TellR.cells a vn vd), false, false⟩ :: F) :: S⟩ = some (vd) := by
  have h := wl11 (a := a) (gt2 (H := H) (S := S) (F := F) (X := Block.row ⟨90, 18, (TellR.cells a vn vd), false, false⟩) (B0 := B0) (B1 := B1))
  exact h
theorem ws11 {x : AV} (hx : x.st = true) (hc : x.cells = [x]) (h : M'.get lv ix = some (Block.row ⟨90, 18, (TellR.cells a vn vd), false, false⟩)) : stores Try.prog 22 (.ptr ⟨lv, ix, 11⟩) (x) M' = some (.undef, M'.set lv ix (Block.row ⟨90, 18, (TellR.cells a vn x), false, false⟩)) := by
  rw [store_cell (a := ⟨lv, ix, 11⟩) (r := ⟨90, 18, (TellR.cells a vn vd), false, false⟩) ti22 (by unfold getRow; simp only [h]) rfl rfl rfl (show 11 % 18 + 1 ≤ 18 by decide) hx hc]; rfl
theorem ws11_0 {x : AV} (hx : x.st = true) (hc : x.cells = [x]) : stores Try.prog 22 (.ptr ⟨S.length + 1, 0, 11⟩) (x) ⟨H, (Block.row ⟨90, 18, (TellR.cells a vn vd), false, false⟩ :: F) :: S⟩ = some (.undef, ⟨H, (Block.row ⟨90, 18, (TellR.cells a vn x), false, false⟩ :: F) :: S⟩) := by
  have h := ws11 (a := a) (x := x) (hx := hx) (hc := hc) (gt0 (H := H) (S := S) (F := F) (X := Block.row ⟨90, 18, (TellR.cells a vn vd), false, false⟩))
  rw [sg0] at h; exact h
theorem ws11_1 {x : AV} (hx : x.st = true) (hc : x.cells = [x]) : stores Try.prog 22 (.ptr ⟨S.length + 1, 1, 11⟩) (x) ⟨H, (B0 :: Block.row ⟨90, 18, (TellR.cells a vn vd), false, false⟩ :: F) :: S⟩ = some (.undef, ⟨H, (B0 :: Block.row ⟨90, 18, (TellR.cells a vn x), false, false⟩ :: F) :: S⟩) := by
  have h := ws11 (a := a) (x := x) (hx := hx) (hc := hc) (gt1 (H := H) (S := S) (F := F) (X := Block.row ⟨90, 18, (TellR.cells a vn vd), false, false⟩) (B0 := B0))
  rw [sg1] at h; exact h
theorem ws11_2 {x : AV} (hx : x.st = true) (hc : x.cells = [x]) : stores Try.prog 22 (.ptr ⟨S.length + 1, 2, 11⟩) (x) ⟨H, (B0 :: B1 :: Block.row ⟨90, 18, (TellR.cells a vn vd), false, false⟩ :: F) :: S⟩ = some (.undef, ⟨H, (B0 :: B1 :: Block.row ⟨90, 18, (TellR.cells a vn x), false, false⟩ :: F) :: S⟩) := by
  have h := ws11 (a := a) (x := x) (hx := hx) (hc := hc) (gt2 (H := H) (S := S) (F := F) (X := Block.row ⟨90, 18, (TellR.cells a vn vd), false, false⟩) (B0 := B0) (B1 := B1))
  rw [sg2] at h; exact h
theorem wl12  (h : M'.get lv ix = some (Block.row ⟨90, 18, (TellR.cells a vn vd), false, false⟩)) : loadA Try.prog 4 (.ptr ⟨lv, ix, 12⟩) M' = some (.bool a.s.q.dir) := by
  rw [load_one (a := ⟨lv, ix, 12⟩) (r := ⟨90, 18, (TellR.cells a vn vd), false, false⟩) ti4 rfl (by unfold getRow; simp only [h])]; rfl
theorem wl12_0  : loadA Try.prog 4 (.ptr ⟨S.length + 1, 0, 12⟩) ⟨H, (Block.row ⟨90, 18, (TellR.cells a vn vd), false, false⟩ :: F) :: S⟩ = some (.bool a.s.q.dir) := by
  have h := wl12 (a := a) (gt0 (H := H) (S := S) (F := F) (X := Block.row ⟨90, 18, (TellR.cells a vn vd), false, false⟩))
  exact h
theorem wl12_1  : loadA Try.prog 4 (.ptr ⟨S.length + 1, 1, 12⟩) ⟨H, (B0 :: Block.row ⟨90, 18, (TellR.cells a vn vd), false, false⟩ :: F) :: S⟩ = some (.bool a.s.q.dir) := by
  have h := wl12 (a := a) (gt1 (H := H) (S := S) (F := F) (X := Block.row ⟨90, 18, (TellR.cells a vn vd), false, false⟩) (B0 := B0))
  exact h
theorem wl12_2  : loadA Try.prog 4 (.ptr ⟨S.length + 1, 2, 12⟩) ⟨H, (B0 :: B1 :: Block.row ⟨90, 18, (TellR.cells a vn vd), false, false⟩ :: F) :: S⟩ = some (.bool a.s.q.dir) := by
  have h := wl12 (a := a) (gt2 (H := H) (S := S) (F := F) (X := Block.row ⟨90, 18, (TellR.cells a vn vd), false, false⟩) (B0 := B0) (B1 := B1))
  exact h
theorem ws12 {n : Bool} (h : M'.get lv ix = some (Block.row ⟨90, 18, (TellR.cells a vn vd), false, false⟩)) : stores Try.prog 4 (.ptr ⟨lv, ix, 12⟩) (.bool n) M' = some (.undef, M'.set lv ix (Block.row ⟨90, 18, (TellR.cells {a with s.q.dir := n} vn vd), false, false⟩)) := by
  rw [store_cell (a := ⟨lv, ix, 12⟩) (r := ⟨90, 18, (TellR.cells a vn vd), false, false⟩) ti4 (by unfold getRow; simp only [h]) rfl rfl rfl (show 12 % 18 + 1 ≤ 18 by decide) rfl rfl]; rfl
theorem ws12_0 {n : Bool} : stores Try.prog 4 (.ptr ⟨S.length + 1, 0, 12⟩) (.bool n) ⟨H, (Block.row ⟨90, 18, (TellR.cells a vn vd), false, false⟩ :: F) :: S⟩ = some (.undef, ⟨H, (Block.row ⟨90, 18, (TellR.cells {a with s.q.dir := n} vn vd), false, false⟩ :: F) :: S⟩) := by
  have h := ws12 (a := a) (n := n) (gt0 (H := H) (S := S) (F := F) (X := Block.row ⟨90, 18, (TellR.cells a vn vd), false, false⟩))
  rw [sg0] at h; exact h
theorem ws12_1 {n : Bool} : stores Try.prog 4 (.ptr ⟨S.length + 1, 1, 12⟩) (.bool n) ⟨H, (B0 :: Block.row ⟨90, 18, (TellR.cells a vn vd), false, false⟩ :: F) :: S⟩ = some (.undef, ⟨H, (B0 :: Block.row ⟨90, 18, (TellR.cells {a with s.q.dir := n} vn vd), false, false⟩ :: F) :: S⟩) := by
  have h := ws12 (a := a) (n := n) (gt1 (H := H) (S := S) (F := F) (X := Block.row ⟨90, 18, (TellR.cells a vn vd), false, false⟩) (B0 := B0))
  rw [sg1] at h; exact h
theorem ws12_2 {n : Bool} : stores Try.prog 4 (.ptr ⟨S.length + 1, 2, 12⟩) (.bool n) ⟨H, (B0 :: B1 :: Block.row ⟨90, 18, (TellR.cells a vn vd), false, false⟩ :: F) :: S⟩ = some (.undef, ⟨H, (B0 :: B1 :: Block.row ⟨90, 18, (TellR.cells {a with s.q.dir := n} vn vd), false, false⟩ :: F) :: S⟩) := by
  have h := ws12 (a := a) (n := n) (gt2 (H := H) (S := S) (F := F) (X := Block.row ⟨90, 18, (TellR.cells a vn vd), false, false⟩) (B0 := B0) (B1 := B1))
  rw [sg2] at h; exact h
theorem wl13  (h : M'.get lv ix = some (Block.row ⟨90, 18, (TellR.cells a vn vd), false, false⟩)) : loadA Try.prog 3 (.ptr ⟨lv, ix, 13⟩) M' = some (.int .i64 a.s.q.ver) := by
  rw [load_one (a := ⟨lv, ix, 13⟩) (r := ⟨90, 18, (TellR.cells a vn vd), false, false⟩) ti3 rfl (by unfold getRow; simp only [h])]; rfl
theorem wl13_0  : loadA Try.prog 3 (.ptr ⟨S.length + 1, 0, 13⟩) ⟨H, (Block.row ⟨90, 18, (TellR.cells a vn vd), false, false⟩ :: F) :: S⟩ = some (.int .i64 a.s.q.ver) := by
  have h := wl13 (a := a) (gt0 (H := H) (S := S) (F := F) (X := Block.row ⟨90, 18, (TellR.cells a vn vd), false, false⟩))
  exact h
theorem wl13_1  : loadA Try.prog 3 (.ptr ⟨S.length + 1, 1, 13⟩) ⟨H, (B0 :: Block.row ⟨90, 18, (TellR.cells a vn vd), false, false⟩ :: F) :: S⟩ = some (.int .i64 a.s.q.ver) := by
  have h := wl13 (a := a) (gt1 (H := H) (S := S) (F := F) (X := Block.row ⟨90, 18, (TellR.cells a vn vd), false, false⟩) (B0 := B0))
  exact h
theorem wl13_2  : loadA Try.prog 3 (.ptr ⟨S.length + 1, 2, 13⟩) ⟨H, (B0 :: B1 :: Block.row ⟨90, 18, (TellR.cells a vn vd), false, false⟩ :: F) :: S⟩ = some (.int .i64 a.s.q.ver) := by
  have h := wl13 (a := a) (gt2 (H := H) (S := S) (F := F) (X := Block.row ⟨90, 18, (TellR.cells a vn vd), false, false⟩) (B0 := B0) (B1 := B1))
  exact h
theorem ws13 {n : Int} (h : M'.get lv ix = some (Block.row ⟨90, 18, (TellR.cells a vn vd), false, false⟩)) : stores Try.prog 3 (.ptr ⟨lv, ix, 13⟩) (.int .i64 n) M' = some (.undef, M'.set lv ix (Block.row ⟨90, 18, (TellR.cells {a with s.q.ver := n} vn vd), false, false⟩)) := by
  rw [store_cell (a := ⟨lv, ix, 13⟩) (r := ⟨90, 18, (TellR.cells a vn vd), false, false⟩) ti3 (by unfold getRow; simp only [h]) rfl rfl rfl (show 13 % 18 + 1 ≤ 18 by decide) rfl rfl]; rfl
theorem ws13_0 {n : Int} : stores Try.prog 3 (.ptr ⟨S.length + 1, 0, 13⟩) (.int .i64 n) ⟨H, (Block.row ⟨90, 18, (TellR.cells a vn vd), false, false⟩ :: F) :: S⟩ = some (.undef, ⟨H, (Block.row ⟨90, 18, (TellR.cells {a with s.q.ver := n} vn vd), false, false⟩ :: F) :: S⟩) := by
  have h := ws13 (a := a) (n := n) (gt0 (H := H) (S := S) (F := F) (X := Block.row ⟨90, 18, (TellR.cells a vn vd), false, false⟩))
  rw [sg0] at h; exact h
theorem ws13_1 {n : Int} : stores Try.prog 3 (.ptr ⟨S.length + 1, 1, 13⟩) (.int .i64 n) ⟨H, (B0 :: Block.row ⟨90, 18, (TellR.cells a vn vd), false, false⟩ :: F) :: S⟩ = some (.undef, ⟨H, (B0 :: Block.row ⟨90, 18, (TellR.cells {a with s.q.ver := n} vn vd), false, false⟩ :: F) :: S⟩) := by
  have h := ws13 (a := a) (n := n) (gt1 (H := H) (S := S) (F := F) (X := Block.row ⟨90, 18, (TellR.cells a vn vd), false, false⟩) (B0 := B0))
  rw [sg1] at h; exact h
theorem ws13_2 {n : Int} : stores Try.prog 3 (.ptr ⟨S.length + 1, 2, 13⟩) (.int .i64 n) ⟨H, (B0 :: B1 :: Block.row ⟨90, 18, (TellR.cells a vn vd), false, false⟩ :: F) :: S⟩ = some (.undef, ⟨H, (B0 :: B1 :: Block.row ⟨90, 18, (TellR.cells {a with s.q.ver := n} vn vd), false, false⟩ :: F) :: S⟩) := by
  have h := ws13 (a := a) (n := n) (gt2 (H := H) (S := S) (F := F) (X := Block.row ⟨90, 18, (TellR.cells a vn vd), false, false⟩) (B0 := B0) (B1 := B1))
  rw [sg2] at h; exact h
theorem wl14  (h : M'.get lv ix = some (Block.row ⟨90, 18, (TellR.cells a vn vd), false, false⟩)) : loadA Try.prog 3 (.ptr ⟨lv, ix, 14⟩) M' = some (.int .i64 a.s.q.path) := by
  rw [load_one (a := ⟨lv, ix, 14⟩) (r := ⟨90, 18, (TellR.cells a vn vd), false, false⟩) ti3 rfl (by unfold getRow; simp only [h])]; rfl
theorem wl14_0  : loadA Try.prog 3 (.ptr ⟨S.length + 1, 0, 14⟩) ⟨H, (Block.row ⟨90, 18, (TellR.cells a vn vd), false, false⟩ :: F) :: S⟩ = some (.int .i64 a.s.q.path) := by
  have h := wl14 (a := a) (gt0 (H := H) (S := S) (F := F) (X := Block.row ⟨90, 18, (TellR.cells a vn vd), false, false⟩))
  exact h
theorem wl14_1  : loadA Try.prog 3 (.ptr ⟨S.length + 1, 1, 14⟩) ⟨H, (B0 :: Block.row ⟨90, 18, (TellR.cells a vn vd), false, false⟩ :: F) :: S⟩ = some (.int .i64 a.s.q.path) := by
  have h := wl14 (a := a) (gt1 (H := H) (S := S) (F := F) (X := Block.row ⟨90, 18, (TellR.cells a vn vd), false, false⟩) (B0 := B0))
  exact h
theorem wl14_2  : loadA Try.prog 3 (.ptr ⟨S.length + 1, 2, 14⟩) ⟨H, (B0 :: B1 :: Block.row ⟨90, 18, (TellR.cells a vn vd), false, false⟩ :: F) :: S⟩ = some (.int .i64 a.s.q.path) := by
  have h := wl14 (a := a) (gt2 (H := H) (S := S) (F := F) (X := Block.row ⟨90, 18, (TellR.cells a vn vd), false, false⟩) (B0 := B0) (B1 := B1))
  exact h
theorem ws14 {n : Int} (h : M'.get lv ix = some (Block.row ⟨90, 18, (TellR.cells a vn vd), false, false⟩)) : stores Try.prog 3 (.ptr ⟨lv, ix, 14⟩) (.int .i64 n) M' = some (.undef, M'.set lv ix (Block.row ⟨90, 18, (TellR.cells {a with s.q.path := n} vn vd), false, false⟩)) := by
  rw [store_cell (a := ⟨lv, ix, 14⟩) (r := ⟨90, 18, (TellR.cells a vn vd), false, false⟩) ti3 (by unfold getRow; simp only [h]) rfl rfl rfl (show 14 % 18 + 1 ≤ 18 by decide) rfl rfl]; rfl
theorem ws14_0 {n : Int} : stores Try.prog 3 (.ptr ⟨S.length + 1, 0, 14⟩) (.int .i64 n) ⟨H, (Block.row ⟨90, 18, (TellR.cells a vn vd), false, false⟩ :: F) :: S⟩ = some (.undef, ⟨H, (Block.row ⟨90, 18, (TellR.cells {a with s.q.path := n} vn vd), false, false⟩ :: F) :: S⟩) := by
  have h := ws14 (a := a) (n := n) (gt0 (H := H) (S := S) (F := F) (X := Block.row ⟨90, 18, (TellR.cells a vn vd), false, false⟩))
  rw [sg0] at h; exact h
theorem ws14_1 {n : Int} : stores Try.prog 3 (.ptr ⟨S.length + 1, 1, 14⟩) (.int .i64 n) ⟨H, (B0 :: Block.row ⟨90, 18, (TellR.cells a vn vd), false, false⟩ :: F) :: S⟩ = some (.undef, ⟨H, (B0 :: Block.row ⟨90, 18, (TellR.cells {a with s.q.path := n} vn vd), false, false⟩ :: F) :: S⟩) := by
  have h := ws14 (a := a) (n := n) (gt1 (H := H) (S := S) (F := F) (X := Block.row ⟨90, 18, (TellR.cells a vn vd), false, false⟩) (B0 := B0))
  rw [sg1] at h; exact h
theorem ws14_2 {n : Int} : stores Try.prog 3 (.ptr ⟨S.length + 1, 2, 14⟩) (.int .i64 n) ⟨H, (B0 :: B1 :: Block.row ⟨90, 18, (TellR.cells a vn vd), false, false⟩ :: F) :: S⟩ = some (.undef, ⟨H, (B0 :: B1 :: Block.row ⟨90, 18, (TellR.cells {a with s.q.path := n} vn vd), false, false⟩ :: F) :: S⟩) := by
  have h := ws14 (a := a) (n := n) (gt2 (H := H) (S := S) (F := F) (X := Block.row ⟨90, 18, (TellR.cells a vn vd), false, false⟩) (B0 := B0) (B1 := B1))
  rw [sg2] at h; exact h
theorem wl15  (h : M'.get lv ix = some (Block.row ⟨90, 18, (TellR.cells a vn vd), false, false⟩)) : loadA Try.prog 3 (.ptr ⟨lv, ix, 15⟩) M' = some (.int .i64 a.s.mode) := by
  rw [load_one (a := ⟨lv, ix, 15⟩) (r := ⟨90, 18, (TellR.cells a vn vd), false, false⟩) ti3 rfl (by unfold getRow; simp only [h])]; rfl
theorem wl15_0  : loadA Try.prog 3 (.ptr ⟨S.length + 1, 0, 15⟩) ⟨H, (Block.row ⟨90, 18, (TellR.cells a vn vd), false, false⟩ :: F) :: S⟩ = some (.int .i64 a.s.mode) := by
  have h := wl15 (a := a) (gt0 (H := H) (S := S) (F := F) (X := Block.row ⟨90, 18, (TellR.cells a vn vd), false, false⟩))
  exact h
theorem wl15_1  : loadA Try.prog 3 (.ptr ⟨S.length + 1, 1, 15⟩) ⟨H, (B0 :: Block.row ⟨90, 18, (TellR.cells a vn vd), false, false⟩ :: F) :: S⟩ = some (.int .i64 a.s.mode) := by
  have h := wl15 (a := a) (gt1 (H := H) (S := S) (F := F) (X := Block.row ⟨90, 18, (TellR.cells a vn vd), false, false⟩) (B0 := B0))
  exact h
theorem wl15_2  : loadA Try.prog 3 (.ptr ⟨S.length + 1, 2, 15⟩) ⟨H, (B0 :: B1 :: Block.row ⟨90, 18, (TellR.cells a vn vd), false, false⟩ :: F) :: S⟩ = some (.int .i64 a.s.mode) := by
  have h := wl15 (a := a) (gt2 (H := H) (S := S) (F := F) (X := Block.row ⟨90, 18, (TellR.cells a vn vd), false, false⟩) (B0 := B0) (B1 := B1))
  exact h
theorem ws15 {n : Int} (h : M'.get lv ix = some (Block.row ⟨90, 18, (TellR.cells a vn vd), false, false⟩)) : stores Try.prog 3 (.ptr ⟨lv, ix, 15⟩) (.int .i64 n) M' = some (.undef, M'.set lv ix (Block.row ⟨90, 18, (TellR.cells {a with s.mode := n} vn vd), false, false⟩)) := by
  rw [store_cell (a := ⟨lv, ix, 15⟩) (r := ⟨90, 18, (TellR.cells a vn vd), false, false⟩) ti3 (by unfold getRow; simp only [h]) rfl rfl rfl (show 15 % 18 + 1 ≤ 18 by decide) rfl rfl]; rfl
theorem ws15_0 {n : Int} : stores Try.prog 3 (.ptr ⟨S.length + 1, 0, 15⟩) (.int .i64 n) ⟨H, (Block.row ⟨90, 18, (TellR.cells a vn vd), false, false⟩ :: F) :: S⟩ = some (.undef, ⟨H, (Block.row ⟨90, 18, (TellR.cells {a with s.mode := n} vn vd), false, false⟩ :: F) :: S⟩) := by
  have h := ws15 (a := a) (n := n) (gt0 (H := H) (S := S) (F := F) (X := Block.row ⟨90, 18, (TellR.cells a vn vd), false, false⟩))
  rw [sg0] at h; exact h
theorem ws15_1 {n : Int} : stores Try.prog 3 (.ptr ⟨S.length + 1, 1, 15⟩) (.int .i64 n) ⟨H, (B0 :: Block.row ⟨90, 18, (TellR.cells a vn vd), false, false⟩ :: F) :: S⟩ = some (.undef, ⟨H, (B0 :: Block.row ⟨90, 18, (TellR.cells {a with s.mode := n} vn vd), false, false⟩ :: F) :: S⟩) := by
  have h := ws15 (a := a) (n := n) (gt1 (H := H) (S := S) (F := F) (X := Block.row ⟨90, 18, (TellR.cells a vn vd), false, false⟩) (B0 := B0))
  rw [sg1] at h; exact h
theorem ws15_2 {n : Int} : stores Try.prog 3 (.ptr ⟨S.length + 1, 2, 15⟩) (.int .i64 n) ⟨H, (B0 :: B1 :: Block.row ⟨90, 18, (TellR.cells a vn vd), false, false⟩ :: F) :: S⟩ = some (.undef, ⟨H, (B0 :: B1 :: Block.row ⟨90, 18, (TellR.cells {a with s.mode := n} vn vd), false, false⟩ :: F) :: S⟩) := by
  have h := ws15 (a := a) (n := n) (gt2 (H := H) (S := S) (F := F) (X := Block.row ⟨90, 18, (TellR.cells a vn vd), false, false⟩) (B0 := B0) (B1 := B1))
  rw [sg2] at h; exact h
theorem wl16  (h : M'.get lv ix = some (Block.row ⟨90, 18, (TellR.cells a vn vd), false, false⟩)) : loadA Try.prog 3 (.ptr ⟨lv, ix, 16⟩) M' = some (.int .i64 a.s.size) := by
  rw [load_one (a := ⟨lv, ix, 16⟩) (r := ⟨90, 18, (TellR.cells a vn vd), false, false⟩) ti3 rfl (by unfold getRow; simp only [h])]; rfl
theorem wl16_0  : loadA Try.prog 3 (.ptr ⟨S.length + 1, 0, 16⟩) ⟨H, (Block.row ⟨90, 18, (TellR.cells a vn vd), false, false⟩ :: F) :: S⟩ = some (.int .i64 a.s.size) := by
  have h := wl16 (a := a) (gt0 (H := H) (S := S) (F := F) (X := Block.row ⟨90, 18, (TellR.cells a vn vd), false, false⟩))
  exact h
theorem wl16_1  : loadA Try.prog 3 (.ptr ⟨S.length + 1, 1, 16⟩) ⟨H, (B0 :: Block.row ⟨90, 18, (TellR.cells a vn vd), false, false⟩ :: F) :: S⟩ = some (.int .i64 a.s.size) := by
  have h := wl16 (a := a) (gt1 (H := H) (S := S) (F := F) (X := Block.row ⟨90, 18, (TellR.cells a vn vd), false, false⟩) (B0 := B0))
  exact h
theorem wl16_2  : loadA Try.prog 3 (.ptr ⟨S.length + 1, 2, 16⟩) ⟨H, (B0 :: B1 :: Block.row ⟨90, 18, (TellR.cells a vn vd), false, false⟩ :: F) :: S⟩ = some (.int .i64 a.s.size) := by
  have h := wl16 (a := a) (gt2 (H := H) (S := S) (F := F) (X := Block.row ⟨90, 18, (TellR.cells a vn vd), false, false⟩) (B0 := B0) (B1 := B1))
  exact h
theorem ws16 {n : Int} (h : M'.get lv ix = some (Block.row ⟨90, 18, (TellR.cells a vn vd), false, false⟩)) : stores Try.prog 3 (.ptr ⟨lv, ix, 16⟩) (.int .i64 n) M' = some (.undef, M'.set lv ix (Block.row ⟨90, 18, (TellR.cells {a with s.size := n} vn vd), false, false⟩)) := by
  rw [store_cell (a := ⟨lv, ix, 16⟩) (r := ⟨90, 18, (TellR.cells a vn vd), false, false⟩) ti3 (by unfold getRow; simp only [h]) rfl rfl rfl (show 16 % 18 + 1 ≤ 18 by decide) rfl rfl]; rfl
theorem ws16_0 {n : Int} : stores Try.prog 3 (.ptr ⟨S.length + 1, 0, 16⟩) (.int .i64 n) ⟨H, (Block.row ⟨90, 18, (TellR.cells a vn vd), false, false⟩ :: F) :: S⟩ = some (.undef, ⟨H, (Block.row ⟨90, 18, (TellR.cells {a with s.size := n} vn vd), false, false⟩ :: F) :: S⟩) := by
  have h := ws16 (a := a) (n := n) (gt0 (H := H) (S := S) (F := F) (X := Block.row ⟨90, 18, (TellR.cells a vn vd), false, false⟩))
  rw [sg0] at h; exact h
theorem ws16_1 {n : Int} : stores Try.prog 3 (.ptr ⟨S.length + 1, 1, 16⟩) (.int .i64 n) ⟨H, (B0 :: Block.row ⟨90, 18, (TellR.cells a vn vd), false, false⟩ :: F) :: S⟩ = some (.undef, ⟨H, (B0 :: Block.row ⟨90, 18, (TellR.cells {a with s.size := n} vn vd), false, false⟩ :: F) :: S⟩) := by
  have h := ws16 (a := a) (n := n) (gt1 (H := H) (S := S) (F := F) (X := Block.row ⟨90, 18, (TellR.cells a vn vd), false, false⟩) (B0 := B0))
  rw [sg1] at h; exact h
theorem ws16_2 {n : Int} : stores Try.prog 3 (.ptr ⟨S.length + 1, 2, 16⟩) (.int .i64 n) ⟨H, (B0 :: B1 :: Block.row ⟨90, 18, (TellR.cells a vn vd), false, false⟩ :: F) :: S⟩ = some (.undef, ⟨H, (B0 :: B1 :: Block.row ⟨90, 18, (TellR.cells {a with s.size := n} vn vd), false, false⟩ :: F) :: S⟩) := by
  have h := ws16 (a := a) (n := n) (gt2 (H := H) (S := S) (F := F) (X := Block.row ⟨90, 18, (TellR.cells a vn vd), false, false⟩) (B0 := B0) (B1 := B1))
  rw [sg2] at h; exact h
theorem wl17  (h : M'.get lv ix = some (Block.row ⟨90, 18, (TellR.cells a vn vd), false, false⟩)) : loadA Try.prog 9 (.ptr ⟨lv, ix, 17⟩) M' = some (.str a.s.name) := by
  rw [load_one (a := ⟨lv, ix, 17⟩) (r := ⟨90, 18, (TellR.cells a vn vd), false, false⟩) ti9 rfl (by unfold getRow; simp only [h])]; rfl
theorem wl17_0  : loadA Try.prog 9 (.ptr ⟨S.length + 1, 0, 17⟩) ⟨H, (Block.row ⟨90, 18, (TellR.cells a vn vd), false, false⟩ :: F) :: S⟩ = some (.str a.s.name) := by
  have h := wl17 (a := a) (gt0 (H := H) (S := S) (F := F) (X := Block.row ⟨90, 18, (TellR.cells a vn vd), false, false⟩))
  exact h
theorem wl17_1  : loadA Try.prog 9 (.ptr ⟨S.length + 1, 1, 17⟩) ⟨H, (B0 :: Block.row ⟨90, 18, (TellR.cells a vn vd), false, false⟩ :: F) :: S⟩ = some (.str a.s.name) := by
  have h := wl17 (a := a) (gt1 (H := H) (S := S) (F := F) (X := Block.row ⟨90, 18, (TellR.cells a vn vd), false, false⟩) (B0 := B0))
  exact h
theorem wl17_2  : loadA Try.prog 9 (.ptr ⟨S.length + 1, 2, 17⟩) ⟨H, (B0 :: B1 :: Block.row ⟨90, 18, (TellR.cells a vn vd), false, false⟩ :: F) :: S⟩ = some (.str a.s.name) := by
  have h := wl17 (a := a) (gt2 (H := H) (S := S) (F := F) (X := Block.row ⟨90, 18, (TellR.cells a vn vd), false, false⟩) (B0 := B0) (B1 := B1))
  exact h
theorem ws17 {n : List UInt8} (h : M'.get lv ix = some (Block.row ⟨90, 18, (TellR.cells a vn vd), false, false⟩)) : stores Try.prog 9 (.ptr ⟨lv, ix, 17⟩) (.str n) M' = some (.undef, M'.set lv ix (Block.row ⟨90, 18, (TellR.cells {a with s.name := n} vn vd), false, false⟩)) := by
  rw [store_cell (a := ⟨lv, ix, 17⟩) (r := ⟨90, 18, (TellR.cells a vn vd), false, false⟩) ti9 (by unfold getRow; simp only [h]) rfl rfl rfl (show 17 % 18 + 1 ≤ 18 by decide) rfl rfl]; rfl
theorem ws17_0 {n : List UInt8} : stores Try.prog 9 (.ptr ⟨S.length + 1, 0, 17⟩) (.str n) ⟨H, (Block.row ⟨90, 18, (TellR.cells a vn vd), false, false⟩ :: F) :: S⟩ = some (.undef, ⟨H, (Block.row ⟨90, 18, (TellR.cells {a with s.name := n} vn vd), false, false⟩ :: F) :: S⟩) := by
  have h := ws17 (a := a) (n := n) (gt0 (H := H) (S := S) (F := F) (X := Block.row ⟨90, 18, (TellR.cells a vn vd), false, false⟩))
  rw [sg0] at h; exact h
theorem ws17_1 {n : List UInt8} : stores Try.prog 9 (.ptr ⟨S.length + 1, 1, 17⟩) (.str n) ⟨H, (B0 :: Block.row ⟨90, 18, (TellR.cells a vn vd), false, false⟩ :: F) :: S⟩ = some (.undef, ⟨H, (B0 :: Block.row ⟨90, 18, (TellR.cells {a with s.name := n} vn vd), false, false⟩ :: F) :: S⟩) := by
  have h := ws17 (a := a) (n := n) (gt1 (H := H) (S := S) (F := F) (X := Block.row ⟨90, 18, (TellR.cells a vn vd), false, false⟩) (B0 := B0))
  rw [sg1] at h; exact h
theorem ws17_2 {n : List UInt8} : stores Try.prog 9 (.ptr ⟨S.length + 1, 2, 17⟩) (.str n) ⟨H, (B0 :: B1 :: Block.row ⟨90, 18, (TellR.cells a vn vd), false, false⟩ :: F) :: S⟩ = some (.undef, ⟨H, (B0 :: B1 :: Block.row ⟨90, 18, (TellR.cells {a with s.name := n} vn vd), false, false⟩ :: F) :: S⟩) := by
  have h := ws17 (a := a) (n := n) (gt2 (H := H) (S := S) (F := F) (X := Block.row ⟨90, 18, (TellR.cells a vn vd), false, false⟩) (B0 := B0) (B1 := B1))
  rw [sg2] at h; exact h
theorem wl7g85  (h : M'.get lv ix = some (Block.row ⟨90, 18, (TellR.cells a vn vd), false, false⟩)) : loadA Try.prog 85 (.ptr ⟨lv, ix, 7⟩) M' = some (.agg a.q.cells) := by
  rw [load_agg (a := ⟨lv, ix, 7⟩) (r := ⟨90, 18, (TellR.cells a vn vd), false, false⟩) ti85 rfl (by unfold getRow; simp only [h]) (show 7 % 18 + 3 ≤ 18 by decide)]; rfl
theorem wl7g85_0  : loadA Try.prog 85 (.ptr ⟨S.length + 1, 0, 7⟩) ⟨H, (Block.row ⟨90, 18, (TellR.cells a vn vd), false, false⟩ :: F) :: S⟩ = some (.agg a.q.cells) := by
  have h := wl7g85 (a := a) (gt0 (H := H) (S := S) (F := F) (X := Block.row ⟨90, 18, (TellR.cells a vn vd), false, false⟩))
  exact h
theorem wl7g85_1  : loadA Try.prog 85 (.ptr ⟨S.length + 1, 1, 7⟩) ⟨H, (B0 :: Block.row ⟨90, 18, (TellR.cells a vn vd), false, false⟩ :: F) :: S⟩ = some (.agg a.q.cells) := by
  have h := wl7g85 (a := a) (gt1 (H := H) (S := S) (F := F) (X := Block.row ⟨90, 18, (TellR.cells a vn vd), false, false⟩) (B0 := B0))
  exact h
theorem wl7g85_2  : loadA Try.prog 85 (.ptr ⟨S.length + 1, 2, 7⟩) ⟨H, (B0 :: B1 :: Block.row ⟨90, 18, (TellR.cells a vn vd), false, false⟩ :: F) :: S⟩ = some (.agg a.q.cells) := by
  have h := wl7g85 (a := a) (gt2 (H := H) (S := S) (F := F) (X := Block.row ⟨90, 18, (TellR.cells a vn vd), false, false⟩) (B0 := B0) (B1 := B1))
  exact h
theorem ws7g85 {b : QidR} (h : M'.get lv ix = some (Block.row ⟨90, 18, (TellR.cells a vn vd), false, false⟩)) : stores Try.prog 85 (.ptr ⟨lv, ix, 7⟩) (.agg (QidR.cells b)) M' = some (.undef, M'.set lv ix (Block.row ⟨90, 18, (TellR.cells {a with q := b} vn vd), false, false⟩)) := by
  rw [store_agg (a := ⟨lv, ix, 7⟩) (r := ⟨90, 18, (TellR.cells a vn vd), false, false⟩) ti85 (by unfold getRow; simp only [h]) rfl rfl (show 7 % 18 + 3 ≤ 18 by decide) rfl rfl]; rfl
theorem ws7g85_0 {b : QidR} : stores Try.prog 85 (.ptr ⟨S.length + 1, 0, 7⟩) (.agg (QidR.cells b)) ⟨H, (Block.row ⟨90, 18, (TellR.cells a vn vd), false, false⟩ :: F) :: S⟩ = some (.undef, ⟨H, (Block.row ⟨90, 18, (TellR.cells {a with q := b} vn vd), false, false⟩ :: F) :: S⟩) := by
  have h := ws7g85 (a := a) (b := b) (gt0 (H := H) (S := S) (F := F) (X := Block.row ⟨90, 18, (TellR.cells a vn vd), false, false⟩))
  rw [sg0] at h; exact h
theorem ws7g85_1 {b : QidR} : stores Try.prog 85 (.ptr ⟨S.length + 1, 1, 7⟩) (.agg (QidR.cells b)) ⟨H, (B0 :: Block.row ⟨90, 18, (TellR.cells a vn vd), false, false⟩ :: F) :: S⟩ = some (.undef, ⟨H, (B0 :: Block.row ⟨90, 18, (TellR.cells {a with q := b} vn vd), false, false⟩ :: F) :: S⟩) := by
  have h := ws7g85 (a := a) (b := b) (gt1 (H := H) (S := S) (F := F) (X := Block.row ⟨90, 18, (TellR.cells a vn vd), false, false⟩) (B0 := B0))
  rw [sg1] at h; exact h
theorem ws7g85_2 {b : QidR} : stores Try.prog 85 (.ptr ⟨S.length + 1, 2, 7⟩) (.agg (QidR.cells b)) ⟨H, (B0 :: B1 :: Block.row ⟨90, 18, (TellR.cells a vn vd), false, false⟩ :: F) :: S⟩ = some (.undef, ⟨H, (B0 :: B1 :: Block.row ⟨90, 18, (TellR.cells {a with q := b} vn vd), false, false⟩ :: F) :: S⟩) := by
  have h := ws7g85 (a := a) (b := b) (gt2 (H := H) (S := S) (F := F) (X := Block.row ⟨90, 18, (TellR.cells a vn vd), false, false⟩) (B0 := B0) (B1 := B1))
  rw [sg2] at h; exact h
theorem wl12g85  (h : M'.get lv ix = some (Block.row ⟨90, 18, (TellR.cells a vn vd), false, false⟩)) : loadA Try.prog 85 (.ptr ⟨lv, ix, 12⟩) M' = some (.agg a.s.q.cells) := by
  rw [load_agg (a := ⟨lv, ix, 12⟩) (r := ⟨90, 18, (TellR.cells a vn vd), false, false⟩) ti85 rfl (by unfold getRow; simp only [h]) (show 12 % 18 + 3 ≤ 18 by decide)]; rfl
theorem wl12g85_0  : loadA Try.prog 85 (.ptr ⟨S.length + 1, 0, 12⟩) ⟨H, (Block.row ⟨90, 18, (TellR.cells a vn vd), false, false⟩ :: F) :: S⟩ = some (.agg a.s.q.cells) := by
  have h := wl12g85 (a := a) (gt0 (H := H) (S := S) (F := F) (X := Block.row ⟨90, 18, (TellR.cells a vn vd), false, false⟩))
  exact h
theorem wl12g85_1  : loadA Try.prog 85 (.ptr ⟨S.length + 1, 1, 12⟩) ⟨H, (B0 :: Block.row ⟨90, 18, (TellR.cells a vn vd), false, false⟩ :: F) :: S⟩ = some (.agg a.s.q.cells) := by
  have h := wl12g85 (a := a) (gt1 (H := H) (S := S) (F := F) (X := Block.row ⟨90, 18, (TellR.cells a vn vd), false, false⟩) (B0 := B0))
  exact h
theorem wl12g85_2  : loadA Try.prog 85 (.ptr ⟨S.length + 1, 2, 12⟩) ⟨H, (B0 :: B1 :: Block.row ⟨90, 18, (TellR.cells a vn vd), false, false⟩ :: F) :: S⟩ = some (.agg a.s.q.cells) := by
  have h := wl12g85 (a := a) (gt2 (H := H) (S := S) (F := F) (X := Block.row ⟨90, 18, (TellR.cells a vn vd), false, false⟩) (B0 := B0) (B1 := B1))
  exact h
theorem ws12g85 {b : QidR} (h : M'.get lv ix = some (Block.row ⟨90, 18, (TellR.cells a vn vd), false, false⟩)) : stores Try.prog 85 (.ptr ⟨lv, ix, 12⟩) (.agg (QidR.cells b)) M' = some (.undef, M'.set lv ix (Block.row ⟨90, 18, (TellR.cells {a with s.q := b} vn vd), false, false⟩)) := by
  rw [store_agg (a := ⟨lv, ix, 12⟩) (r := ⟨90, 18, (TellR.cells a vn vd), false, false⟩) ti85 (by unfold getRow; simp only [h]) rfl rfl (show 12 % 18 + 3 ≤ 18 by decide) rfl rfl]; rfl
theorem ws12g85_0 {b : QidR} : stores Try.prog 85 (.ptr ⟨S.length + 1, 0, 12⟩) (.agg (QidR.cells b)) ⟨H, (Block.row ⟨90, 18, (TellR.cells a vn vd), false, false⟩ :: F) :: S⟩ = some (.undef, ⟨H, (Block.row ⟨90, 18, (TellR.cells {a with s.q := b} vn vd), false, false⟩ :: F) :: S⟩) := by
  have h := ws12g85 (a := a) (b := b) (gt0 (H := H) (S := S) (F := F) (X := Block.row ⟨90, 18, (TellR.cells a vn vd), false, false⟩))
  rw [sg0] at h; exact h
theorem ws12g85_1 {b : QidR} : stores Try.prog 85 (.ptr ⟨S.length + 1, 1, 12⟩) (.agg (QidR.cells b)) ⟨H, (B0 :: Block.row ⟨90, 18, (TellR.cells a vn vd), false, false⟩ :: F) :: S⟩ = some (.undef, ⟨H, (B0 :: Block.row ⟨90, 18, (TellR.cells {a with s.q := b} vn vd), false, false⟩ :: F) :: S⟩) := by
  have h := ws12g85 (a := a) (b := b) (gt1 (H := H) (S := S) (F := F) (X := Block.row ⟨90, 18, (TellR.cells a vn vd), false, false⟩) (B0 := B0))
  rw [sg1] at h; exact h
theorem ws12g85_2 {b : QidR} : stores Try.prog 85 (.ptr ⟨S.length + 1, 2, 12⟩) (.agg (QidR.cells b)) ⟨H, (B0 :: B1 :: Block.row ⟨90, 18, (TellR.cells a vn vd), false, false⟩ :: F) :: S⟩ = some (.undef, ⟨H, (B0 :: B1 :: Block.row ⟨90, 18, (TellR.cells {a with s.q := b} vn vd), false, false⟩ :: F) :: S⟩) := by
  have h := ws12g85 (a := a) (b := b) (gt2 (H := H) (S := S) (F := F) (X := Block.row ⟨90, 18, (TellR.cells a vn vd), false, false⟩) (B0 := B0) (B1 := B1))
  rw [sg2] at h; exact h
theorem wl12g88  (h : M'.get lv ix = some (Block.row ⟨90, 18, (TellR.cells a vn vd), false, false⟩)) : loadA Try.prog 88 (.ptr ⟨lv, ix, 12⟩) M' = some (.agg a.s.cells) := by
  rw [load_agg (a := ⟨lv, ix, 12⟩) (r := ⟨90, 18, (TellR.cells a vn vd), false, false⟩) ti88 rfl (by unfold getRow; simp only [h]) (show 12 % 18 + 6 ≤ 18 by decide)]; rfl
theorem wl12g88_0  : loadA Try.prog 88 (.ptr ⟨S.length + 1, 0, 12⟩) ⟨H, (Block.row ⟨90, 18, (TellR.cells a vn vd), false, false⟩ :: F) :: S⟩ = some (.agg a.s.cells) := by
  have h := wl12g88 (a := a) (gt0 (H := H) (S := S) (F := F) (X := Block.row ⟨90, 18, (TellR.cells a vn vd), false, false⟩))
  exact h
theorem wl12g88_1  : loadA Try.prog 88 (.ptr ⟨S.length + 1, 1, 12⟩) ⟨H, (B0 :: Block.row ⟨90, 18, (TellR.cells a vn vd), false, false⟩ :: F) :: S⟩ = some (.agg a.s.cells) := by
  have h := wl12g88 (a := a) (gt1 (H := H) (S := S) (F := F) (X := Block.row ⟨90, 18, (TellR.cells a vn vd), false, false⟩) (B0 := B0))
  exact h
theorem wl12g88_2  : loadA Try.prog 88 (.ptr ⟨S.length + 1, 2, 12⟩) ⟨H, (B0 :: B1 :: Block.row ⟨90, 18, (TellR.cells a vn vd), false, false⟩ :: F) :: S⟩ = some (.agg a.s.cells) := by
  have h := wl12g88 (a := a) (gt2 (H := H) (S := S) (F := F) (X := Block.row ⟨90, 18, (TellR.cells a vn vd), false, false⟩) (B0 := B0) (B1 := B1))
  exact h
theorem ws12g88 {b : StatR} (h : M'.get lv ix = some (Block.row ⟨90, 18, (TellR.cells a vn vd), false, false⟩)) : stores Try.prog 88 (.ptr ⟨lv, ix, 12⟩) (.agg (StatR.cells b)) M' = some (.undef, M'.set lv ix (Block.row ⟨90, 18, (TellR.cells {a with s := b} vn vd), false, false⟩)) := by
  rw [store_agg (a := ⟨lv, ix, 12⟩) (r := ⟨90, 18, (TellR.cells a vn vd), false, false⟩) ti88 (by unfold getRow; simp only [h]) rfl rfl (show 12 % 18 + 6 ≤ 18 by decide) rfl rfl]; rfl
theorem ws12g88_0 {b : StatR} : stores Try.prog 88 (.ptr ⟨S.length + 1, 0, 12⟩) (.agg (StatR.cells b)) ⟨H, (Block.row ⟨90, 18, (TellR.cells a vn vd), false, false⟩ :: F) :: S⟩ = some (.undef, ⟨H, (Block.row ⟨90, 18, (TellR.cells {a with s := b} vn vd), false, false⟩ :: F) :: S⟩) := by
  have h := ws12g88 (a := a) (b := b) (gt0 (H := H) (S := S) (F := F) (X := Block.row ⟨90, 18, (TellR.cells a vn vd), false, false⟩))
  rw [sg0] at h; exact h
theorem ws12g88_1 {b : StatR} : stores Try.prog 88 (.ptr ⟨S.length + 1, 1, 12⟩) (.agg (StatR.cells b)) ⟨H, (B0 :: Block.row ⟨90, 18, (TellR.cells a vn vd), false, false⟩ :: F) :: S⟩ = some (.undef, ⟨H, (B0 :: Block.row ⟨90, 18, (TellR.cells {a with s := b} vn vd), false, false⟩ :: F) :: S⟩) := by
  have h := ws12g88 (a := a) (b := b) (gt1 (H := H) (S := S) (F := F) (X := Block.row ⟨90, 18, (TellR.cells a vn vd), false, false⟩) (B0 := B0))
  rw [sg1] at h; exact h
theorem ws12g88_2 {b : StatR} : stores Try.prog 88 (.ptr ⟨S.length + 1, 2, 12⟩) (.agg (StatR.cells b)) ⟨H, (B0 :: B1 :: Block.row ⟨90, 18, (TellR.cells a vn vd), false, false⟩ :: F) :: S⟩ = some (.undef, ⟨H, (B0 :: B1 :: Block.row ⟨90, 18, (TellR.cells {a with s := b} vn vd), false, false⟩ :: F) :: S⟩) := by
  have h := ws12g88 (a := a) (b := b) (gt2 (H := H) (S := S) (F := F) (X := Block.row ⟨90, 18, (TellR.cells a vn vd), false, false⟩) (B0 := B0) (B1 := B1))
  rw [sg2] at h; exact h
theorem wL  (h : M'.get lv ix = some (Block.row ⟨90, 18, (TellR.cells a vn vd), false, false⟩)) : loadA Try.prog 90 (.ptr ⟨lv, ix, 0⟩) M' = some (.agg (TellR.cells a vn vd)) := load_all (a := ⟨lv, ix, 0⟩) (r := ⟨90, 18, (TellR.cells a vn vd), false, false⟩) ti90 rfl (by unfold getRow; simp only [h]) rfl rfl rfl
theorem wL_0  : loadA Try.prog 90 (.ptr ⟨S.length + 1, 0, 0⟩) ⟨H, (Block.row ⟨90, 18, (TellR.cells a vn vd), false, false⟩ :: F) :: S⟩ = some (.agg (TellR.cells a vn vd)) := by
  have h := wL (a := a) (gt0 (H := H) (S := S) (F := F) (X := Block.row ⟨90, 18, (TellR.cells a vn vd), false, false⟩))
  exact h
theorem wL_1  : loadA Try.prog 90 (.ptr ⟨S.length + 1, 1, 0⟩) ⟨H, (B0 :: Block.row ⟨90, 18, (TellR.cells a vn vd), false, false⟩ :: F) :: S⟩ = some (.agg (TellR.cells a vn vd)) := by
  have h := wL (a := a) (gt1 (H := H) (S := S) (F := F) (X := Block.row ⟨90, 18, (TellR.cells a vn vd), false, false⟩) (B0 := B0))
  exact h
theorem wL_2  : loadA Try.prog 90 (.ptr ⟨S.length + 1, 2, 0⟩) ⟨H, (B0 :: B1 :: Block.row ⟨90, 18, (TellR.cells a vn vd), false, false⟩ :: F) :: S⟩ = some (.agg (TellR.cells a vn vd)) := by
  have h := wL (a := a) (gt2 (H := H) (S := S) (F := F) (X := Block.row ⟨90, 18, (TellR.cells a vn vd), false, false⟩) (B0 := B0) (B1 := B1))
  exact h
theorem wS {b : TellR} {vn' vd' : AV} (hst : (TellR.cells b vn' vd').all AV.st = true) (h : M'.get lv ix = some (Block.row ⟨90, 18, (TellR.cells a vn vd), false, false⟩)) : stores Try.prog 90 (.ptr ⟨lv, ix, 0⟩) (.agg (TellR.cells b vn' vd')) M' = some (.undef, M'.set lv ix (Block.row ⟨90, 18, (TellR.cells b vn' vd'), false, false⟩)) := by
  rw [store_all (a := ⟨lv, ix, 0⟩) (r := ⟨90, 18, (TellR.cells a vn vd), false, false⟩) ti90 (by unfold getRow; simp only [h]) rfl rfl rfl rfl rfl rfl hst]
theorem wS_0 {b : TellR} {vn' vd' : AV} (hst : (TellR.cells b vn' vd').all AV.st = true) : stores Try.prog 90 (.ptr ⟨S.length + 1, 0, 0⟩) (.agg (TellR.cells b vn' vd')) ⟨H, (Block.row ⟨90, 18, (TellR.cells a vn vd), false, false⟩ :: F) :: S⟩ = some (.undef, ⟨H, (Block.row ⟨90, 18, (TellR.cells b vn' vd'), false, false⟩ :: F) :: S⟩) := by
  have h := wS (a := a) (b := b) (vn' := vn') (vd' := vd') (hst := hst) (gt0 (H := H) (S := S) (F := F) (X := Block.row ⟨90, 18, (TellR.cells a vn vd), false, false⟩))
  rw [sg0] at h; exact h
theorem wS_1 {b : TellR} {vn' vd' : AV} (hst : (TellR.cells b vn' vd').all AV.st = true) : stores Try.prog 90 (.ptr ⟨S.length + 1, 1, 0⟩) (.agg (TellR.cells b vn' vd')) ⟨H, (B0 :: Block.row ⟨90, 18, (TellR.cells a vn vd), false, false⟩ :: F) :: S⟩ = some (.undef, ⟨H, (B0 :: Block.row ⟨90, 18, (TellR.cells b vn' vd'), false, false⟩ :: F) :: S⟩) := by
  have h := wS (a := a) (b := b) (vn' := vn') (vd' := vd') (hst := hst) (gt1 (H := H) (S := S) (F := F) (X := Block.row ⟨90, 18, (TellR.cells a vn vd), false, false⟩) (B0 := B0))
  rw [sg1] at h; exact h
theorem wS_2 {b : TellR} {vn' vd' : AV} (hst : (TellR.cells b vn' vd').all AV.st = true) : stores Try.prog 90 (.ptr ⟨S.length + 1, 2, 0⟩) (.agg (TellR.cells b vn' vd')) ⟨H, (B0 :: B1 :: Block.row ⟨90, 18, (TellR.cells a vn vd), false, false⟩ :: F) :: S⟩ = some (.undef, ⟨H, (B0 :: B1 :: Block.row ⟨90, 18, (TellR.cells b vn' vd'), false, false⟩ :: F) :: S⟩) := by
  have h := wS (a := a) (b := b) (vn' := vn') (vd' := vd') (hst := hst) (gt2 (H := H) (S := S) (F := F) (X := Block.row ⟨90, 18, (TellR.cells a vn vd), false, false⟩) (B0 := B0) (B1 := B1))
  rw [sg2] at h; exact h
theorem wboxL (hst : (TellR.cells a vn vd).all AV.st = true) : boxA Try.prog 90 false (.agg (TellR.cells a vn vd)) ⟨H, F :: S⟩ = some (.ptr ⟨S.length + 1, F.length, 0⟩, ⟨H, (F ++ [Block.row ⟨90, 18, (TellR.cells a vn vd), false, false⟩]) :: S⟩) := box_agg (P := Try.prog) (hp := false) ti90 hst rfl (by decide)
theorem wboxH (hst : (TellR.cells a vn vd).all AV.st = true) : boxA Try.prog 90 true (.agg (TellR.cells a vn vd)) ⟨H, S⟩ = some (.ptr ⟨0, H.length, 0⟩, ⟨H ++ [Block.row ⟨90, 18, (TellR.cells a vn vd), false, false⟩], S⟩) := box_agg (P := Try.prog) (hp := true) ti90 hst rfl (by decide)
theorem wallocL : allocA Try.prog 90 false ⟨H, F :: S⟩ = some (.ptr ⟨S.length + 1, F.length, 0⟩, ⟨H, (F ++ [Block.row ⟨90, 18, (TellR.cells TellR.z .nilsl .nilsl), false, false⟩]) :: S⟩) := alloc_agg (P := Try.prog) (hp := false) ti90 rfl rfl rfl (by decide)
theorem wallocH : allocA Try.prog 90 true ⟨H, S⟩ = some (.ptr ⟨0, H.length, 0⟩, ⟨H ++ [Block.row ⟨90, 18, (TellR.cells TellR.z .nilsl .nilsl), false, false⟩], S⟩) := alloc_agg (P := Try.prog) (hp := true) ti90 rfl rfl rfl (by decide)
end
section
variable {H : List Block} {S : List (List Block)} {F : List Block} {lv ix : Nat} {M' : Mem} {a : QidR} {B0 B1 B2 : Block}
theorem ya0  (h : M'.get lv ix = some (Block.row ⟨85, 3, (QidR.cells a ), false, false⟩)) : fieldAddrA Try.prog 85 (.ptr ⟨lv, ix, 0⟩) 0 M' = some (.ptr ⟨lv, ix, 0⟩) := field_addr (a := ⟨lv, ix, 0⟩) (r := ⟨85, 3, (QidR.cells a ), false, false⟩) (off := 0) ti85 rfl rfl ti4 (by unfold getRow; simp only [h])
theorem ya0_0  : fieldAddrA Try.prog 85 (.ptr ⟨S.length + 1, 0, 0⟩) 0 ⟨H, (Block.row ⟨85, 3, (QidR.cells a ), false, false⟩ :: F) :: S⟩ = some (.ptr ⟨S.length + 1, 0, 0⟩) := by
  have h := ya0 (a := a) (gt0 (H := H) (S := S) (F := F) (X := Block.row ⟨85, 3, (QidR.cells a ), false, false⟩))
  exact h
theorem ya1  (h : M'.get lv ix = some (Block.row ⟨85, 3, (QidR.cells a ), false, false⟩)) : fieldAddrA Try.prog 85 (.ptr ⟨lv, ix, 0⟩) 1 M' = some (.ptr ⟨lv, ix, 1⟩) := field_addr (a := ⟨lv, ix, 0⟩) (r := ⟨85, 3, (QidR.cells a ), false, false⟩) (off := 1) ti85 rfl rfl ti3 (by unfold getRow; simp only [h])
theorem ya1_0  : fieldAddrA Try.prog 85 (.ptr ⟨S.length + 1, 0, 0⟩) 1 ⟨H, (Block.row ⟨85, 3, (QidR.cells a ), false, false⟩ :: F) :: S⟩ = some (.ptr ⟨S.length + 1, 0, 1⟩) := by
  have h := ya1 (a := a) (gt0 (H := H) (S := S) (F := F) (X := Block.row ⟨85, 3, (QidR.cells a ), false, false⟩))
  exact h
theorem ya2  (h : M'.get lv ix = some (Block.row ⟨85, 3, (QidR.cells a ), false, false⟩)) : fieldAddrA Try.prog 85 (.ptr ⟨lv, ix, 0⟩) 2 M' = some (.ptr ⟨lv, ix, 2⟩) := field_addr (a := ⟨lv, ix, 0⟩) (r := ⟨85, 3, (QidR.cells a ), false, false⟩) (off := 2) ti85 rfl rfl ti3 (by unfold getRow; simp only [h])
theorem ya2_0  : fieldAddrA Try.prog 85 (.ptr ⟨S.length + 1, 0, 0⟩) 2 ⟨H, (Block.row ⟨85, 3, (QidR.cells a ), false, false⟩ :: F) :: S⟩ = some (.ptr ⟨S.length + 1, 0, 2⟩) := by
  have h := ya2 (a := a) (gt0 (H := H) (S := S) (F := F) (X := Block.row ⟨85, 3, (QidR.cells a ), false, false⟩))
  exact h
theorem yl0  (h : M'.get lv ix = some (Block.row ⟨85, 3, (QidR.cells a ), false, false⟩)) : loadA Try.prog 4 (.ptr ⟨lv, ix, 0⟩) M' = some (.bool a.dir) := by
  rw [load_one (a := ⟨lv, ix, 0⟩) (r := ⟨85, 3, (QidR.cells a ), false, false⟩) ti4 rfl (by unfold getRow; simp only [h])]; rfl
theorem yl0_0  : loadA Try.prog 4 (.ptr ⟨S.length + 1, 0, 0⟩) ⟨H, (Block.row ⟨85, 3, (QidR.cells a ), false, false⟩ :: F) :: S⟩ = some (.bool a.dir) := by
  have h := yl0 (a := a) (gt0 (H := H) (S := S) (F := F) (X := Block.row ⟨85, 3, (QidR.cells a ), false, false⟩))
  exact h
theorem ys0 {n : Bool} (h : M'.get lv ix = some (Block.row ⟨85, 3, (QidR.cells a ), false, false⟩)) : stores Try.prog 4 (.ptr ⟨lv, ix, 0⟩) (.bool n) M' = some (.undef, M'.set lv ix (Block.row ⟨85, 3, (QidR.cells {a with dir := n} ), false, false⟩)) := by
  rw [store_cell (a := ⟨lv, ix, 0⟩) (r := ⟨85, 3, (QidR.cells a ), false, false⟩) ti4 (by unfold getRow; simp only [h]) rfl rfl rfl (show 0 % 3 + 1 ≤ 3 by decide) rfl rfl]; rfl
theorem ys0_0 {n : Bool} : stores Try.prog 4 (.ptr ⟨S.length + 1, 0, 0⟩) (.bool n) ⟨H, (Block.row ⟨85, 3, (QidR.cells a ), false, false⟩ :: F) :: S⟩ = some (.undef, ⟨H, (Block.row ⟨85, 3, (QidR.cells {a with dir := n} ), false, false⟩ :: F) :: S⟩) := by
  have h := ys0 (a := a) (n := n) (gt0 (H := H) (S := S) (F := F) (X := Block.row ⟨85, 3, (QidR.cells a ), false, false⟩))
  rw [sg0] at h; exact h
theorem yl1  (h : M'.get lv ix = some (Block.row ⟨85, 3, (QidR.cells a ), false, false⟩)) : loadA Try.prog 3 (.ptr ⟨lv, ix, 1⟩) M' = some (.int .i64 a.ver) := by
  rw [load_one (a := ⟨lv, ix, 1⟩) (r := ⟨85, 3, (QidR.cells a ), false, false⟩) ti3 rfl (by unfold getRow; simp only [h])]; rfl
theorem yl1_0  : loadA Try.prog 3 (.ptr ⟨S.length + 1, 0, 1⟩) ⟨H, (Block.row ⟨85, 3, (QidR.cells a ), false, false⟩ :: F) :: S⟩ = some (.int .i64 a.ver) := by
  have h := yl1 (a := a) (gt0 (H := H) (S := S) (F := F) (X := Block.row ⟨85, 3, (QidR.cells a ), false, false⟩))
  exact h
theorem ys1 {n : Int} (h : M'.get lv ix = some (Block.row ⟨85, 3, (QidR.cells a ), false, false⟩)) : stores Try.prog 3 (.ptr ⟨lv, ix, 1⟩) (.int .i64 n) M' = some (.undef, M'.set lv ix (Block.row ⟨85, 3, (QidR.cells {a with ver := n} ), false, false⟩)) := by
  rw [store_cell (a := ⟨lv, ix, 1⟩) (r := ⟨85, 3, (QidR.cells a ), false, false⟩) ti3 (by unfold getRow; simp only [h]) rfl rfl rfl (show 1 % 3 + 1 ≤ 3 by decide) rfl rfl]; rfl
theorem ys1_0 {n : Int} : stores Try.prog 3 (.ptr ⟨S.length + 1, 0, 1⟩) (.int .i64 n) ⟨H, (Block.row ⟨85, 3, (QidR.cells a ), false, false⟩ :: F) :: S⟩ = some (.undef, ⟨H, (Block.row ⟨85, 3, (QidR.cells {a with ver := n} ), false, false⟩ :: F) :: S⟩) := by
  have h := ys1 (a := a) (n := n) (gt0 (H := H) (S := S) (F := F) (X := Block.row ⟨85, 3, (QidR.cells a ), false, false⟩))
  rw [sg0] at h; exact h
theorem yl2  (h : M'.get lv ix = some (Block.row ⟨85, 3, (QidR.cells a ), false, false⟩)) : loadA Try.prog 3 (.ptr ⟨lv, ix, 2⟩) M' = some (.int .i64 a.path) := by
  rw [load_one (a := ⟨lv, ix, 2⟩) (r := ⟨85, 3, (QidR.cells a ), false, false⟩) ti3 rfl (by unfold getRow; simp only [h])]; rfl
theorem yl2_0  : loadA Try.prog 3 (.ptr ⟨S.length + 1, 0, 2⟩) ⟨H, (Block.row ⟨85, 3, (QidR.cells a ), false, false⟩ :: F) :: S⟩ = some (.int .i64 a.path) := by
  have h := yl2 (a := a) (gt0 (H := H) (S := S) (F := F) (X := Block.row ⟨85, 3, (QidR.cells a ), false, false⟩))
  exact h
theorem ys2 {n : Int} (h : M'.get lv ix = some (Block.row ⟨85, 3, (QidR.cells a ), false, false⟩)) : stores Try.prog 3 (.ptr ⟨lv, ix, 2⟩) (.int .i64 n) M' = some (.undef, M'.set lv ix (Block.row ⟨85, 3, (QidR.cells {a with path := n} ), false, false⟩)) := by
  rw [store_cell (a := ⟨lv, ix, 2⟩) (r := ⟨85, 3, (QidR.cells a ), false, false⟩) ti3 (by unfold getRow; simp only [h]) rfl rfl rfl (show 2 % 3 + 1 ≤ 3 by decide) rfl rfl]; rfl
theorem ys2_0 {n : Int} : stores Try.prog 3 (.ptr ⟨S.length + 1, 0, 2⟩) (.int .i64 n) ⟨H, (Block.row ⟨85, 3, (QidR.cells a ), false, false⟩ :: F) :: S⟩ = some (.undef, ⟨H, (Block.row ⟨85, 3, (QidR.cells {a with path := n} ), false, false⟩ :: F) :: S⟩) := by
  have h := ys2 (a := a) (n := n) (gt0 (H := H) (S := S) (F := F) (X := Block.row ⟨85, 3, (QidR.cells a ), false, false⟩))
  rw [sg0] at h; exact h
theorem yL  (h : M'.get lv ix = some (Block.row ⟨85, 3, (QidR.cells a ), false, false⟩)) : loadA Try.prog 85 (.ptr ⟨lv, ix, 0⟩) M' = some (.agg (QidR.cells a )) := load_all (a := ⟨lv, ix, 0⟩) (r := ⟨85, 3, (QidR.cells a ), false, false⟩) ti85 rfl (by unfold getRow; simp only [h]) rfl rfl rfl
theorem yL_0  : loadA Try.prog 85 (.ptr ⟨S.length + 1, 0, 0⟩) ⟨H, (Block.row ⟨85, 3, (QidR.cells a ), false, false⟩ :: F) :: S⟩ = some (.agg (QidR.cells a )) := by
  have h := yL (a := a) (gt0 (H := H) (S := S) (F := F) (X := Block.row ⟨85, 3, (QidR.cells a ), false, false⟩))
  exact h
theorem yS {b : QidR} (hst : (QidR.cells b ).all AV.st = true) (h : M'.get lv ix = some (Block.row ⟨85, 3, (QidR.cells a ), false, false⟩)) : stores Try.prog 85 (.ptr ⟨lv, ix, 0⟩) (.agg (QidR.cells b )) M' = some (.undef, M'.set lv ix (Block.row ⟨85, 3, (QidR.cells b ), false, false⟩)) := by
  rw [store_all (a := ⟨lv, ix, 0⟩) (r := ⟨85, 3, (QidR.cells a ), false, false⟩) ti85 (by unfold getRow; simp only [h]) rfl rfl rfl rfl rfl rfl hst]
theorem yS_0 {b : QidR} (hst : (QidR.cells b ).all AV.st = true) : stores Try.prog 85 (.ptr ⟨S.length + 1, 0, 0⟩) (.agg (QidR.cells b )) ⟨H, (Block.row ⟨85, 3, (QidR.cells a ), false, false⟩ :: F) :: S⟩ = some (.undef, ⟨H, (Block.row ⟨85, 3, (QidR.cells b ), false, false⟩ :: F) :: S⟩) := by
  have h := yS (a := a) (b := b) (hst := hst) (gt0 (H := H) (S := S) (F := F) (X := Block.row ⟨85, 3, (QidR.cells a ), false, false⟩))
  rw [sg0] at h; exact h
theorem yboxL (hst : (QidR.cells a ).all AV.st = true) : boxA Try.prog 85 false (.agg (QidR.cells a )) ⟨H, F :: S⟩ = some (.ptr ⟨S.length + 1, F.length, 0⟩, ⟨H, (F ++ [Block.row ⟨85, 3, (QidR.cells a ), false, false⟩]) :: S⟩) := box_agg (P := Try.prog) (hp := false) ti85 hst rfl (by decide)
theorem yboxH (hst : (QidR.cells a ).all AV.st = true) : boxA Try.prog 85 true (.agg (QidR.cells a )) ⟨H, S⟩ = some (.ptr ⟨0, H.length, 0⟩, ⟨H ++ [Block.row ⟨85, 3, (QidR.cells a ), false, false⟩], S⟩) := box_agg (P := Try.prog) (hp := true) ti85 hst rfl (by decide)
theorem yallocL : allocA Try.prog 85 false ⟨H, F :: S⟩ = some (.ptr ⟨S.length + 1, F.length, 0⟩, ⟨H, (F ++ [Block.row ⟨85, 3, (QidR.cells QidR.z ), false, false⟩]) :: S⟩) := alloc_agg (P := Try.prog) (hp := false) ti85 rfl rfl rfl (by decide)
theorem yallocH : allocA Try.prog 85 true ⟨H, S⟩ = some (.ptr ⟨0, H.length, 0⟩, ⟨H ++ [Block.row ⟨85, 3, (QidR.cells QidR.z ), false, false⟩], S⟩) := alloc_agg (P := Try.prog) (hp := true) ti85 rfl rfl rfl (by decide)
end
section
variable {H H' : List Block} {S : List (List Block)} {M' : Mem}
theorem QL.one {v : AV} {l : List QidR} (h : QL H v l) : v.st = true ∧ v.cells = [v] := ⟨RH.st h.1, by rcases h.1 with ⟨rfl, _⟩ | ⟨i, off, c, r, rfl, _⟩ <;> rfl⟩
theorem QL.nil : QL H .nilsl [] := ⟨RH.nil, rfl⟩
theorem QL.new {v : AV} {l : List QidR} (h : QL H v l) (u : UpdH no H H') : QL H' v l := ⟨RH.new h.1 u, h.2⟩
theorem QL.len {v : AV} {l : List QidR} (h : QL H v l) : lenA Try.prog 86 v ⟨H, S⟩ = some (.int .i64 l.length) := len_rd (RH.rd h.1) ti86 rfl
theorem QL.lev0' {v : AV} {l : List QidR} (h : QL H v l) : v.lev0 = true := RH.lev0 h.1
theorem at86 {v : AV} {l : List QidR} {i : Nat} (h : QL H v l) (hi : i < l.length) : indexAddrA Try.prog 86 v (.int .i64 i) ⟨H, S⟩ = some (idm 3 v i) ∧ loadA Try.prog 85 (idm 3 v i) ⟨H, S⟩ = some (.agg l[i].cells) :=
  at_aggs (f := QidR.cells) (fun _ => rfl) h.1 h.2 ti86 rfl ti85 rfl (by decide) rfl hi
theorem tcells_st (b : TellR) {vn vd : AV} (h1 : vn.st = true) (h2 : vd.st = true) : (b.cells vn vd).all AV.st = true := by
  simp [TellR.cells, h1, h2]; simp [AV.st, AV.lev0]
theorem tcells_lev {b : TellR} {vn vd : AV} (h1 : vn.lev0 = true) (h2 : vd.lev0 = true) : lev0s (b.cells vn vd) = true := by simp [TellR.cells, lev0s, h1, h2, AV.lev0]
theorem TellV.new {x : AV} {a : TellR} (h : TellV H x a) (u : UpdH no H H') : TellV H' x a := by obtain ⟨vn, vd, rfl, h1, h2⟩ := h; exact ⟨vn, vd, rfl, h1.new u, h2.new u⟩
/-! equality of qids and stats -/
theorem eq4 {n : Nat} {a b : Bool} : eqA Try.prog (n + 1) 4 (.bool a) (.bool b) = some (a == b) := by unfold eqA; simp only [ti4]
theorem eq3 {n : Nat} {a b : Int} : eqA Try.prog (n + 1) 3 (.int .i64 a) (.int .i64 b) = some (a == b) := by unfold eqA; simp only [ti3, if_true]
theorem eq9 {n : Nat} {a b : List UInt8} : eqA Try.prog (n + 1) 9 (.str a) (.str b) = some (a == b) := by unfold eqA; simp only [ti9]
theorem beqC {α : Type} [BEq α] [LawfulBEq α] (x y : α) : ((x == y) = true ∧ x = y) ∨ ((x == y) = false ∧ ¬ x = y) := by
  rcases h : x == y with _ | _
  · exact .inr ⟨rfl, fun e => by subst e; simp at h⟩
  · exact .inl ⟨rfl, eq_of_beq h⟩
theorem eq85 {n : Nat} {q r : QidR} : eqA Try.prog (n + 2) 85 (.agg q.cells) (.agg r.cells) = some (decide (q = r)) := by
  have p0 : ∀ q : QidR, partA Try.prog 4 q.cells 0 = some (.bool q.dir) := fun q => by unfold partA; simp only [ti4]; rfl
  have p1 : ∀ q : QidR, partA Try.prog 3 q.cells 1 = some (.int .i64 q.ver) := fun q => by unfold partA; simp only [ti3]; rfl
  have p2 : ∀ q : QidR, partA Try.prog 3 q.cells 2 = some (.int .i64 q.path) := fun q => by unfold partA; simp only [ti3]; rfl
  unfold eqA
  simp only [ti85, if_true]
  simp only [eqFieldsA, p0, p1, p2, eq4, eq3, Bool.false_eq_true, if_false]
  obtain ⟨a, b, c⟩ := q; obtain ⟨d, e, f⟩ := r
  rcases beqC a d with ⟨e1, h1⟩ | ⟨e1, h1⟩ <;> rcases beqC b e with ⟨e2, h2⟩ | ⟨e2, h2⟩ <;> rcases beqC c f with ⟨e3, h3⟩ | ⟨e3, h3⟩ <;> simp [e1, e2, e3, h1, h2, h3]
theorem eq88 {n : Nat} {q r : StatR} : eqA Try.prog (n + 3) 88 (.agg q.cells) (.agg r.cells) = some (decide (q = r)) := by
  have p0 : ∀ q : StatR, partA Try.prog 85 q.cells 0 = some (.agg q.q.cells) := fun q => by unfold partA; simp only [ti85]; rfl
  have p1 : ∀ q : StatR, partA Try.prog 3 q.cells 3 = some (.int .i64 q.mode) := fun q => by unfold partA; simp only [ti3]; rfl
  have p2 : ∀ q : StatR, partA Try.prog 3 q.cells 4 = some (.int .i64 q.size) := fun q => by unfold partA; simp only [ti3]; rfl
  have p3 : ∀ q : StatR, partA Try.prog 9 q.cells 5 = some (.str q.name) := fun q => by unfold partA; simp only [ti9]; rfl
  unfold eqA
  simp only [ti88, if_true]
  simp only [eqFieldsA, p0, p1, p2, p3, eq85, eq9, eq3, Bool.false_eq_true, if_false]
  obtain ⟨a, b, c, d⟩ := q; obtain ⟨a', b', c', d'⟩ := r
  rcases Classical.em (a = a') with h1 | h1 <;> rcases beqC b b' with ⟨e2, h2⟩ | ⟨e2, h2⟩ <;> rcases beqC c c' with ⟨e3, h3⟩ | ⟨e3, h3⟩ <;> rcases beqC d d' with ⟨e4, h4⟩ | ⟨e4, h4⟩ <;> simp [e2, e3, e4, h1, h2, h3, h4]
theorem beq85 {cx cy : Bool} {q r : QidR} : binG Try.prog .eql 85 cx cy (.agg q.cells) (.agg r.cells) = some (.bool (decide (q = r))) := by
  unfold binG; rw [if_pos ⟨rfl, rfl, by unfold guardA; simp only [ti85]⟩]; unfold binA; simp only [eq85]; rfl
theorem bne85 {cx cy : Bool} {q r : QidR} : binG Try.prog .neq 85 cx cy (.agg q.cells) (.agg r.cells) = some (.bool (!decide (q = r))) := by
  unfold binG; rw [if_pos ⟨rfl, rfl, by unfold guardA; simp only [ti85]⟩]; unfold binA; simp only [eq85]; rfl
theorem beq88 {cx cy : Bool} {q r : StatR} : binG Try.prog .eql 88 cx cy (.agg q.cells) (.agg r.cells) = some (.bool (decide (q = r))) := by
  unfold binG; rw [if_pos ⟨rfl, rfl, by unfold guardA; simp only [ti88]⟩]; unfold binA; simp only [eq88]; rfl
def tkind (n : Int) : Int := if n = 101 then 2 else if n = 105 then 3 else if n = 107 then 4 else if n = 109 then 1 else if n = 121 then 1 else if n = 123 then 1 else if n = 127 then 1 else if n = 111 then 5 else if n = 113 then 6 else if n = 115 then 6 else if n = 117 then 7 else if n = 119 then 8 else if n = 125 then 9 else 0
def TellR.own (a : TellR) : TellR := { ty := a.ty, tag := a.tag, code := if tkind a.ty = 4 then a.code else 0, msize := if tkind a.ty = 2 then a.msize else 0, iounit := if tkind a.ty = 6 then a.iounit else 0, count := if tkind a.ty = 8 then a.count else 0, name := if tkind a.ty = 2 then a.name else [], q := if tkind a.ty = 3 ∨ tkind a.ty = 6 then a.q else QidR.z, qids := if tkind a.ty = 5 then a.qids else [], data := if tkind a.ty = 7 then a.data else [], s := if tkind a.ty = 9 then a.s else StatR.z }
def TellR.ownN (a : TellR) (vn : AV) : AV := if tkind a.ty = 5 then vn else .nilsl
def TellR.ownD (a : TellR) (vd : AV) : AV := if tkind a.ty = 7 then vd else .nilsl
theorem TellR.own_ql {a : TellR} {vn : AV} (h : QL H vn a.qids) : QL H (a.ownN vn) a.own.qids := by
  show QL H (if tkind a.ty = 5 then vn else .nilsl) (if tkind a.ty = 5 then a.qids else [])
  split
  · exact h
  · exact QL.nil
theorem TellR.own_bh {a : TellR} {vd : AV} (h : BH H vd a.data) : BH H (a.ownD vd) a.own.data := by
  show BH H (if tkind a.ty = 7 then vd else .nilsl) (if tkind a.ty = 7 then a.data else [])
  split
  · exact h
  · exact BH.nil
theorem tbld2 {p q : Int} : buildA Try.prog 90 [(0, .int .i64 p), (1, .int .i64 q)] = some (.agg (TellR.cells ⟨p, q, 0, 0, 0, 0, [], QidR.z, [], [], StatR.z⟩ .nilsl .nilsl)) := by unfold buildA; simp only [ti90]; rfl
theorem in116 {n hi : Int} : AC Try.prog 116 [.int .i64 n, .int .i64 hi] ⟨H, S⟩ (fun v M' => v = .bool (inB n 0 hi) ∧ M' = ⟨H, S⟩) := by
  refine AC_of_WE Try.func116 rfl ?_
  simp only [Try.ntmps116, List.length_cons, List.length_nil, List.replicate, List.cons_append, List.nil_append, mem_enter]
  (repeat refine W_seq ?_); refine W_regionT [] ?_
  simp only [go_sem]
  rcases (show 0 ≤ n ∨ ¬ 0 ≤ n by omega) with h | h
  · have hx : decide (0 ≤ n) = true := decide_eq_true h
    (repeat refine W_seq ?_); refine W_regionT [] ?_
    simp only [go_sem, hx]
    refine W_ret ⟨.inr rfl, _, rfl, rfl, ?_, rfl⟩
    unfold inB
    rw [hx, Bool.true_and]; rfl
  · have hx : decide (0 ≤ n) = false := decide_eq_false h
    (repeat refine W_seq ?_); refine W_regionT [] ?_
    simp only [go_sem, hx]
    refine W_ret ⟨.inr rfl, _, rfl, rfl, ?_, rfl⟩
    unfold inB
    rw [hx]; rfl
theorem kind114 {n : Int} : AC Try.prog 114 [.int .i64 n] ⟨H, S⟩ (fun v M' => v = .int .i64 (tkind n) ∧ M' = ⟨H, S⟩) := by
  refine AC_of_WE Try.func114 rfl ?_
  simp only [Try.ntmps114, List.length_cons, List.length_nil, List.replicate, List.cons_append, List.nil_append, mem_enter]
  by_cases hk : n = 101 ∨ n = 105 ∨ n = 107 ∨ n = 109 ∨ n = 121 ∨ n = 123 ∨ n = 127 ∨ n = 111 ∨ n = 113 ∨ n = 115 ∨ n = 117 ∨ n = 119 ∨ n = 125
  · rcases hk with rfl | rfl | rfl | rfl | rfl | rfl | rfl | rfl | rfl | rfl | rfl | rfl | rfl
    · (repeat refine W_seq ?_); refine W_regionT [] ?_
      simp only [go_sem]
      (repeat refine W_seq ?_); refine W_regionT [] ?_
      simp only [go_sem]
      (repeat refine W_seq ?_)
      refine W_block ?_
      (repeat refine W_seq ?_); refine W_regionT [] ?_
      simp only [go_sem]
      (repeat refine W_seq ?_)
      refine W_cond (b := true) rfl ?_
      simp only [if_true]
      (repeat refine W_seq ?_); refine W_regionT [] ?_
      simp only [go_sem]
      exact W_ret ⟨.inr rfl, _, rfl, rfl, rfl, rfl⟩
    · (repeat refine W_seq ?_); refine W_regionT [] ?_
      simp only [go_sem]
      (repeat refine W_seq ?_); refine W_regionT [] ?_
      simp only [go_sem]
      (repeat refine W_seq ?_)
      refine W_block ?_
      (repeat refine W_seq ?_); refine W_regionT [] ?_
      simp only [go_sem]
      (repeat refine W_seq ?_)
      refine W_cond (b := false) rfl ?_
      simp only [Bool.false_eq_true, if_false]
      (repeat refine W_seq ?_); refine W_regionT [] ?_
      simp only [go_sem]
      (repeat refine W_seq ?_)
      refine W_cond (b := true) rfl ?_
      simp only [if_true]
      (repeat refine W_seq ?_); refine W_regionT [] ?_
      simp only [go_sem]
      exact W_ret ⟨.inr rfl, _, rfl, rfl, rfl, rfl⟩
    · (repeat refine W_seq ?_); refine W_regionT [] ?_
      simp only [go_sem]
      (repeat refine W_seq ?_); refine W_regionT [] ?_
      simp only [go_sem]
      (repeat refine W_seq ?_)
      refine W_block ?_
      (repeat refine W_seq ?_); refine W_regionT [] ?_
      simp only [go_sem]
      (repeat refine W_seq ?_)
      refine W_cond (b := false) rfl ?_
      simp only [Bool.false_eq_true, if_false]
      (repeat refine W_seq ?_); refine W_regionT [] ?_
      simp only [go_sem]
      (repeat refine W_seq ?_)
      refine W_cond (b := false) rfl ?_
      simp only [Bool.false_eq_true, if_false]
      (repeat refine W_seq ?_); refine W_regionT [] ?_
      simp only [go_sem]
      (repeat refine W_seq ?_)
      refine W_cond (b := true) rfl ?_
      simp only [if_true]
      (repeat refine W_seq ?_); refine W_regionT [] ?_
      simp only [go_sem]
      exact W_ret ⟨.inr rfl, _, rfl, rfl, rfl, rfl⟩
    · (repeat refine W_seq ?_); refine W_regionT [] ?_
      simp only [go_sem]
      (repeat refine W_seq ?_); refine W_regionT [] ?_
      simp only [go_sem]
      (repeat refine W_seq ?_)
      refine W_block ?_
      (repeat refine W_seq ?_); refine W_regionT [] ?_
      simp only [go_sem]
      (repeat refine W_seq ?_)
      refine W_cond (b := false) rfl ?_
      simp only [Bool.false_eq_true, if_false]
      (repeat refine W_seq ?_); refine W_regionT [] ?_
      simp only [go_sem]
      (repeat refine W_seq ?_)
      refine W_cond (b := false) rfl ?_
      simp only [Bool.false_eq_true, if_false]
      (repeat refine W_seq ?_); refine W_regionT [] ?_
      simp only [go_sem]
      (repeat refine W_seq ?_)
      refine W_cond (b := false) rfl ?_
      simp only [Bool.false_eq_true, if_false]
      (repeat refine W_seq ?_); refine W_regionT [] ?_
      simp only [go_sem]
      (repeat refine W_seq ?_)
      refine W_cond (b := true) rfl ?_
      simp only [if_true]
      refine W_skip ?_
      simp only [go_sem]
      (repeat refine W_seq ?_)
      refine W_cond (b := true) rfl ?_
      simp only [if_true]
      (repeat refine W_seq ?_); refine W_regionT [] ?_
      simp only [go_sem]
      exact W_ret ⟨.inr rfl, _, rfl, rfl, rfl, rfl⟩
    · (repeat refine W_seq ?_); refine W_regionT [] ?_
      simp only [go_sem]
      (repeat refine W_seq ?_); refine W_regionT [] ?_
      simp only [go_sem]
      (repeat refine W_seq ?_)
      refine W_block ?_
      (repeat refine W_seq ?_); refine W_regionT [] ?_
      simp only [go_sem]
      (repeat refine W_seq ?_)
      refine W_cond (b := false) rfl ?_
      simp only [Bool.false_eq_true, if_false]
      (repeat refine W_seq ?_); refine W_regionT [] ?_
      simp only [go_sem]
      (repeat refine W_seq ?_)
      refine W_cond (b := false) rfl ?_
      simp only [Bool.false_eq_true, if_false]
      (repeat refine W_seq ?_); refine W_regionT [] ?_
      simp only [go_sem]
      (repeat refine W_seq ?_)
      refine W_cond (b := false) rfl ?_
      simp only [Bool.false_eq_true, if_false]
      (repeat refine W_seq ?_); refine W_regionT [] ?_
      simp only [go_sem]
      (repeat refine W_seq ?_)
      refine W_cond (b := false) rfl ?_
      simp only [Bool.false_eq_true, if_false]
      (repeat refine W_seq ?_); refine W_regionT [] ?_
      simp only [go_sem]
      (repeat refine W_seq ?_)
      refine W_cond (b := true) rfl ?_
      simp only [if_true]
      refine W_skip ?_
      simp only [go_sem]
      (repeat refine W_seq ?_)
      refine W_cond (b := true) rfl ?_
      simp only [if_true]
      (repeat refine W_seq ?_); refine W_regionT [] ?_
      simp only [go_sem]
      exact W_ret ⟨.inr rfl, _, rfl, rfl, rfl, rfl⟩
    · (repeat refine W_seq ?_); refine W_regionT [] ?_
      simp only [go_sem]
      (repeat refine W_seq ?_); refine W_regionT [] ?_
      simp only [go_sem]
      (repeat refine W_seq ?_)
      refine W_block ?_
      (repeat refine W_seq ?_); refine W_regionT [] ?_
      simp only [go_sem]
      (repeat refine W_seq ?_)
      refine W_cond (b := false) rfl ?_
      simp only [Bool.false_eq_true, if_false]
      (repeat refine W_seq ?_); refine W_regionT [] ?_
      simp only [go_sem]
      (repeat refine W_seq ?_)
      refine W_cond (b := false) rfl ?_
      simp only [Bool.false_eq_true, if_false]
      (repeat refine W_seq ?_); refine W_regionT [] ?_
      simp only [go_sem]
      (repeat refine W_seq ?_)
      refine W_cond (b := false) rfl ?_
      simp only [Bool.false_eq_true, if_false]
      (repeat refine W_seq ?_); refine W_regionT [] ?_
      simp only [go_sem]
      (repeat refine W_seq ?_)
      refine W_cond (b := false) rfl ?_
      simp only [Bool.false_eq_true, if_false]
      (repeat refine W_seq ?_); refine W_regionT [] ?_
      simp only [go_sem]
      (repeat refine W_seq ?_)
      refine W_cond (b := false) rfl ?_
      simp only [Bool.false_eq_true, if_false]
      (repeat refine W_seq ?_); refine W_regionT [] ?_
      simp only [go_sem]
      (repeat refine W_seq ?_)
      refine W_cond (b := true) rfl ?_
      simp only [if_true]
      refine W_skip ?_
      simp only [go_sem]
      (repeat refine W_seq ?_)
      refine W_cond (b := true) rfl ?_
      simp only [if_true]
      (repeat refine W_seq ?_); refine W_regionT [] ?_
      simp only [go_sem]
      exact W_ret ⟨.inr rfl, _, rfl, rfl, rfl, rfl⟩
    · (repeat refine W_seq ?_); refine W_regionT [] ?_
      simp only [go_sem]
      (repeat refine W_seq ?_); refine W_regionT [] ?_
      simp only [go_sem]
      (repeat refine W_seq ?_)
      refine W_block ?_
      (repeat refine W_seq ?_); refine W_regionT [] ?_
      simp only [go_sem]
      (repeat refine W_seq ?_)
      refine W_cond (b := false) rfl ?_
      simp only [Bool.false_eq_true, if_false]
      (repeat refine W_seq ?_); refine W_regionT [] ?_
      simp only [go_sem]
      (repeat refine W_seq ?_)
      refine W_cond (b := false) rfl ?_
      simp only [Bool.false_eq_true, if_false]
      (repeat refine W_seq ?_); refine W_regionT [] ?_
      simp only [go_sem]
      (repeat refine W_seq ?_)
      refine W_cond (b := false) rfl ?_
      simp only [Bool.false_eq_true, if_false]
      (repeat refine W_seq ?_); refine W_regionT [] ?_
      simp only [go_sem]
      (repeat refine W_seq ?_)
      refine W_cond (b := false) rfl ?_
      simp only [Bool.false_eq_true, if_false]
      (repeat refine W_seq ?_); refine W_regionT [] ?_
      simp only [go_sem]
      (repeat refine W_seq ?_)
      refine W_cond (b := false) rfl ?_
      simp only [Bool.false_eq_true, if_false]
      (repeat refine W_seq ?_); refine W_regionT [] ?_
      simp only [go_sem]
      (repeat refine W_seq ?_)
      refine W_cond (b := false) rfl ?_
      simp only [Bool.false_eq_true, if_false]
      (repeat refine W_seq ?_); refine W_regionT [] ?_
      simp only [go_sem]
      (repeat refine W_seq ?_)
      refine W_cond (b := true) rfl ?_
      simp only [if_true]
      (repeat refine W_seq ?_); refine W_regionT [] ?_
      simp only [go_sem]
      exact W_ret ⟨.inr rfl, _, rfl, rfl, rfl, rfl⟩
    · (repeat refine W_seq ?_); refine W_regionT [] ?_
      simp only [go_sem]
      (repeat refine W_seq ?_); refine W_regionT [] ?_
      simp only [go_sem]
      (repeat refine W_seq ?_)
      refine W_block ?_
      (repeat refine W_seq ?_); refine W_regionT [] ?_
      simp only [go_sem]
      (repeat refine W_seq ?_)
      refine W_cond (b := false) rfl ?_
      simp only [Bool.false_eq_true, if_false]
      (repeat refine W_seq ?_); refine W_regionT [] ?_
      simp only [go_sem]
      (repeat refine W_seq ?_)
      refine W_cond (b := false) rfl ?_
      simp only [Bool.false_eq_true, if_false]
      (repeat refine W_seq ?_); refine W_regionT [] ?_
      simp only [go_sem]
      (repeat refine W_seq ?_)
      refine W_cond (b := false) rfl ?_
      simp only [Bool.false_eq_true, if_false]
      (repeat refine W_seq ?_); refine W_regionT [] ?_
      simp only [go_sem]
      (repeat refine W_seq ?_)
      refine W_cond (b := false) rfl ?_
      simp only [Bool.false_eq_true, if_false]
      (repeat refine W_seq ?_); refine W_regionT [] ?_
      simp only [go_sem]
      (repeat refine W_seq ?_)
      refine W_cond (b := false) rfl ?_
      simp only [Bool.false_eq_true, if_false]
      (repeat refine W_seq ?_); refine W_regionT [] ?_
      simp only [go_sem]
      (repeat refine W_seq ?_)
      refine W_cond (b := false) rfl ?_
      simp only [Bool.false_eq_true, if_false]
      (repeat refine W_seq ?_); refine W_regionT [] ?_
      simp only [go_sem]
      (repeat refine W_seq ?_)
      refine W_cond (b := false) rfl ?_
      simp only [Bool.false_eq_true, if_false]
      (repeat refine W_seq ?_); refine W_regionT [] ?_
      simp only [go_sem]
      (repeat refine W_seq ?_)
      refine W_cond (b := true) rfl ?_
      simp only [if_true]
      (repeat refine W_seq ?_); refine W_regionT [] ?_
      simp only [go_sem]
      exact W_ret ⟨.inr rfl, _, rfl, rfl, rfl, rfl⟩
    · (repeat refine W_seq ?_); refine W_regionT [] ?_
      simp only [go_sem]
      (repeat refine W_seq ?_); refine W_regionT [] ?_
      simp only [go_sem]
      (repeat refine W_seq ?_)
      refine W_block ?_
      (repeat refine W_seq ?_); refine W_regionT [] ?_
      simp only [go_sem]
      (repeat refine W_seq ?_)
      refine W_cond (b := false) rfl ?_
      simp only [Bool.false_eq_true, if_false]
      (repeat refine W_seq ?_); refine W_regionT [] ?_
      simp only [go_sem]
      (repeat refine W_seq ?_)
      refine W_cond (b := false) rfl ?_
      simp only [Bool.false_eq_true, if_false]
      (repeat refine W_seq ?_); refine W_regionT [] ?_
      simp only [go_sem]
      (repeat refine W_seq ?_)
      refine W_cond (b := false) rfl ?_
      simp only [Bool.false_eq_true, if_false]
      (repeat refine W_seq ?_); refine W_regionT [] ?_
      simp only [go_sem]
      (repeat refine W_seq ?_)
      refine W_cond (b := false) rfl ?_
      simp only [Bool.false_eq_true, if_false]
      (repeat refine W_seq ?_); refine W_regionT [] ?_
      simp only [go_sem]
      (repeat refine W_seq ?_)
      refine W_cond (b := false) rfl ?_
      simp only [Bool.false_eq_true, if_false]
      (repeat refine W_seq ?_); refine W_regionT [] ?_
      simp only [go_sem]
      (repeat refine W_seq ?_)
      refine W_cond (b := false) rfl ?_
      simp only [Bool.false_eq_true, if_false]
      (repeat refine W_seq ?_); refine W_regionT [] ?_
      simp only [go_sem]
      (repeat refine W_seq ?_)
      refine W_cond (b := false) rfl ?_
      simp only [Bool.false_eq_true, if_false]
      (repeat refine W_seq ?_); refine W_regionT [] ?_
      simp only [go_sem]
      (repeat refine W_seq ?_)
      refine W_cond (b := false) rfl ?_
      simp only [Bool.false_eq_true, if_false]
      (repeat refine W_seq ?_); refine W_regionT [] ?_
      simp only [go_sem]
      (repeat refine W_seq ?_)
      refine W_cond (b := true) rfl ?_
      simp only [if_true]
      refine W_skip ?_
      simp only [go_sem]
      (repeat refine W_seq ?_)
      refine W_cond (b := true) rfl ?_
      simp only [if_true]
      (repeat refine W_seq ?_); refine W_regionT [] ?_
      simp only [go_sem]
      exact W_ret ⟨.inr rfl, _, rfl, rfl, rfl, rfl⟩
    · (repeat refine W_seq ?_); refine W_regionT [] ?_
      simp only [go_sem]
      (repeat refine W_seq ?_); refine W_regionT [] ?_
      simp only [go_sem]
      (repeat refine W_seq ?_)
      refine W_block ?_
      (repeat refine W_seq ?_); refine W_regionT [] ?_
      simp only [go_sem]
      (repeat refine W_seq ?_)
      refine W_cond (b := false) rfl ?_
      simp only [Bool.false_eq_true, if_false]
      (repeat refine W_seq ?_); refine W_regionT [] ?_
      simp only [go_sem]
      (repeat refine W_seq ?_)
      refine W_cond (b := false) rfl ?_
      simp only [Bool.false_eq_true, if_false]
      (repeat refine W_seq ?_); refine W_regionT [] ?_
      simp only [go_sem]
      (repeat refine W_seq ?_)
      refine W_cond (b := false) rfl ?_
      simp only [Bool.false_eq_true, if_false]
      (repeat refine W_seq ?_); refine W_regionT [] ?_
      simp only [go_sem]
      (repeat refine W_seq ?_)
      refine W_cond (b := false) rfl ?_
      simp only [Bool.false_eq_true, if_false]
      (repeat refine W_seq ?_); refine W_regionT [] ?_
      simp only [go_sem]
      (repeat refine W_seq ?_)
      refine W_cond (b := false) rfl ?_
      simp only [Bool.false_eq_true, if_false]
      (repeat refine W_seq ?_); refine W_regionT [] ?_
      simp only [go_sem]
      (repeat refine W_seq ?_)
      refine W_cond (b := false) rfl ?_
      simp only [Bool.false_eq_true, if_false]
      (repeat refine W_seq ?_); refine W_regionT [] ?_
      simp only [go_sem]
      (repeat refine W_seq ?_)
      refine W_cond (b := false) rfl ?_
      simp only [Bool.false_eq_true, if_false]
      (repeat refine W_seq ?_); refine W_regionT [] ?_
      simp only [go_sem]
      (repeat refine W_seq ?_)
      refine W_cond (b := false) rfl ?_
      simp only [Bool.false_eq_true, if_false]
      (repeat refine W_seq ?_); refine W_regionT [] ?_
      simp only [go_sem]
      (repeat refine W_seq ?_)
      refine W_cond (b := false) rfl ?_
      simp only [Bool.false_eq_true, if_false]
      (repeat refine W_seq ?_); refine W_regionT [] ?_
      simp only [go_sem]
      (repeat refine W_seq ?_)
      refine W_cond (b := true) rfl ?_
      simp only [if_true]
      (repeat refine W_seq ?_); refine W_regionT [] ?_
      simp only [go_sem]
      exact W_ret ⟨.inr rfl, _, rfl, rfl, rfl, rfl⟩
    · (repeat refine W_seq ?_); refine W_regionT [] ?_
      simp only [go_sem]
      (repeat refine W_seq ?_); refine W_regionT [] ?_
      simp only [go_sem]
      (repeat refine W_seq ?_)
      refine W_block ?_
      (repeat refine W_seq ?_); refine W_regionT [] ?_
      simp only [go_sem]
      (repeat refine W_seq ?_)
      refine W_cond (b := false) rfl ?_
      simp only [Bool.false_eq_true, if_false]
      (repeat refine W_seq ?_); refine W_regionT [] ?_
      simp only [go_sem]
      (repeat refine W_seq ?_)
      refine W_cond (b := false) rfl ?_
      simp only [Bool.false_eq_true, if_false]
      (repeat refine W_seq ?_); refine W_regionT [] ?_
      simp only [go_sem]
      (repeat refine W_seq ?_)
      refine W_cond (b := false) rfl ?_
      simp only [Bool.false_eq_true, if_false]
      (repeat refine W_seq ?_); refine W_regionT [] ?_
      simp only [go_sem]
      (repeat refine W_seq ?_)
      refine W_cond (b := false) rfl ?_
      simp only [Bool.false_eq_true, if_false]
      (repeat refine W_seq ?_); refine W_regionT [] ?_
      simp only [go_sem]
      (repeat refine W_seq ?_)
      refine W_cond (b := false) rfl ?_
      simp only [Bool.false_eq_true, if_false]
      (repeat refine W_seq ?_); refine W_regionT [] ?_
      simp only [go_sem]
      (repeat refine W_seq ?_)
      refine W_cond (b := false) rfl ?_
      simp only [Bool.false_eq_true, if_false]
      (repeat refine W_seq ?_); refine W_regionT [] ?_
      simp only [go_sem]
      (repeat refine W_seq ?_)
      refine W_cond (b := false) rfl ?_
      simp only [Bool.false_eq_true, if_false]
      (repeat refine W_seq ?_); refine W_regionT [] ?_
      simp only [go_sem]
      (repeat refine W_seq ?_)
      refine W_cond (b := false) rfl ?_
      simp only [Bool.false_eq_true, if_false]
      (repeat refine W_seq ?_); refine W_regionT [] ?_
      simp only [go_sem]
      (repeat refine W_seq ?_)
      refine W_cond (b := false) rfl ?_
      simp only [Bool.false_eq_true, if_false]
      (repeat refine W_seq ?_); refine W_regionT [] ?_
      simp only [go_sem]
      (repeat refine W_seq ?_)
      refine W_cond (b := false) rfl ?_
      simp only [Bool.false_eq_true, if_false]
      (repeat refine W_seq ?_); refine W_regionT [] ?_
      simp only [go_sem]
      (repeat refine W_seq ?_)
      refine W_cond (b := true) rfl ?_
      simp only [if_true]
      (repeat refine W_seq ?_); refine W_regionT [] ?_
      simp only [go_sem]
      exact W_ret ⟨.inr rfl, _, rfl, rfl, rfl, rfl⟩
    · (repeat refine W_seq ?_); refine W_regionT [] ?_
      simp only [go_sem]
      (repeat refine W_seq ?_); refine W_regionT [] ?_
      simp only [go_sem]
      (repeat refine W_seq ?_)
      refine W_block ?_
      (repeat refine W_seq ?_); refine W_regionT [] ?_
      simp only [go_sem]
      (repeat refine W_seq ?_)
      refine W_cond (b := false) rfl ?_
      simp only [Bool.false_eq_true, if_false]
      (repeat refine W_seq ?_); refine W_regionT [] ?_
      simp only [go_sem]
      (repeat refine W_seq ?_)
      refine W_cond (b := false) rfl ?_
      simp only [Bool.false_eq_true, if_false]
      (repeat refine W_seq ?_); refine W_regionT [] ?_
      simp only [go_sem]
      (repeat refine W_seq ?_)
      refine W_cond (b := false) rfl ?_
      simp only [Bool.false_eq_true, if_false]
      (repeat refine W_seq ?_); refine W_regionT [] ?_
      simp only [go_sem]
      (repeat refine W_seq ?_)
      refine W_cond (b := false) rfl ?_
      simp only [Bool.false_eq_true, if_false]
      (repeat refine W_seq ?_); refine W_regionT [] ?_
      simp only [go_sem]
      (repeat refine W_seq ?_)
      refine W_cond (b := false) rfl ?_
      simp only [Bool.false_eq_true, if_false]
      (repeat refine W_seq ?_); refine W_regionT [] ?_
      simp only [go_sem]
      (repeat refine W_seq ?_)
      refine W_cond (b := false) rfl ?_
      simp only [Bool.false_eq_true, if_false]
      (repeat refine W_seq ?_); refine W_regionT [] ?_
      simp only [go_sem]
      (repeat refine W_seq ?_)
      refine W_cond (b := false) rfl ?_
      simp only [Bool.false_eq_true, if_false]
      (repeat refine W_seq ?_); refine W_regionT [] ?_
      simp only [go_sem]
      (repeat refine W_seq ?_)
      refine W_cond (b := false) rfl ?_
      simp only [Bool.false_eq_true, if_false]
      (repeat refine W_seq ?_); refine W_regionT [] ?_
      simp only [go_sem]
      (repeat refine W_seq ?_)
      refine W_cond (b := false) rfl ?_
      simp only [Bool.false_eq_true, if_false]
      (repeat refine W_seq ?_); refine W_regionT [] ?_
      simp only [go_sem]
      (repeat refine W_seq ?_)
      refine W_cond (b := false) rfl ?_
      simp only [Bool.false_eq_true, if_false]
      (repeat refine W_seq ?_); refine W_regionT [] ?_
      simp only [go_sem]
      (repeat refine W_seq ?_)
      refine W_cond (b := false) rfl ?_
      simp only [Bool.false_eq_true, if_false]
      (repeat refine W_seq ?_); refine W_regionT [] ?_
      simp only [go_sem]
      (repeat refine W_seq ?_)
      refine W_cond (b := true) rfl ?_
      simp only [if_true]
      (repeat refine W_seq ?_); refine W_regionT [] ?_
      simp only [go_sem]
      exact W_ret ⟨.inr rfl, _, rfl, rfl, rfl, rfl⟩
    · (repeat refine W_seq ?_); refine W_regionT [] ?_
      simp only [go_sem]
      (repeat refine W_seq ?_); refine W_regionT [] ?_
      simp only [go_sem]
      (repeat refine W_seq ?_)
      refine W_block ?_
      (repeat refine W_seq ?_); refine W_regionT [] ?_
      simp only [go_sem]
      (repeat refine W_seq ?_)
      refine W_cond (b := false) rfl ?_
      simp only [Bool.false_eq_true, if_false]
      (repeat refine W_seq ?_); refine W_regionT [] ?_
      simp only [go_sem]
      (repeat refine W_seq ?_)
      refine W_cond (b := false) rfl ?_
      simp only [Bool.false_eq_true, if_false]
      (repeat refine W_seq ?_); refine W_regionT [] ?_
      simp only [go_sem]
      (repeat refine W_seq ?_)
      refine W_cond (b := false) rfl ?_
      simp only [Bool.false_eq_true, if_false]
      (repeat refine W_seq ?_); refine W_regionT [] ?_
      simp only [go_sem]
      (repeat refine W_seq ?_)
      refine W_cond (b := false) rfl ?_
      simp only [Bool.false_eq_true, if_false]
      (repeat refine W_seq ?_); refine W_regionT [] ?_
      simp only [go_sem]
      (repeat refine W_seq ?_)
      refine W_cond (b := false) rfl ?_
      simp only [Bool.false_eq_true, if_false]
      (repeat refine W_seq ?_); refine W_regionT [] ?_
      simp only [go_sem]
      (repeat refine W_seq ?_)
      refine W_cond (b := false) rfl ?_
      simp only [Bool.false_eq_true, if_false]
      (repeat refine W_seq ?_); refine W_regionT [] ?_
      simp only [go_sem]
      (repeat refine W_seq ?_)
      refine W_cond (b := false) rfl ?_
      simp only [Bool.false_eq_true, if_false]
      (repeat refine W_seq ?_); refine W_regionT [] ?_
      simp only [go_sem]
      (repeat refine W_seq ?_)
      refine W_cond (b := false) rfl ?_
      simp only [Bool.false_eq_true, if_false]
      (repeat refine W_seq ?_); refine W_regionT [] ?_
      simp only [go_sem]
      (repeat refine W_seq ?_)
      refine W_cond (b := false) rfl ?_
      simp only [Bool.false_eq_true, if_false]
      (repeat refine W_seq ?_); refine W_regionT [] ?_
      simp only [go_sem]
      (repeat refine W_seq ?_)
      refine W_cond (b := false) rfl ?_
      simp only [Bool.false_eq_true, if_false]
      (repeat refine W_seq ?_); refine W_regionT [] ?_
      simp only [go_sem]
      (repeat refine W_seq ?_)
      refine W_cond (b := false) rfl ?_
      simp only [Bool.false_eq_true, if_false]
      (repeat refine W_seq ?_); refine W_regionT [] ?_
      simp only [go_sem]
      (repeat refine W_seq ?_)
      refine W_cond (b := false) rfl ?_
      simp only [Bool.false_eq_true, if_false]
      (repeat refine W_seq ?_); refine W_regionT [] ?_
      simp only [go_sem]
      (repeat refine W_seq ?_)
      refine W_cond (b := true) rfl ?_
      simp only [if_true]
      (repeat refine W_seq ?_); refine W_regionT [] ?_
      simp only [go_sem]
      exact W_ret ⟨.inr rfl, _, rfl, rfl, rfl, rfl⟩
  · simp only [not_or] at hk
    obtain ⟨h101, h105, h107, h109, h121, h123, h127, h111, h113, h115, h117, h119, h125⟩ := hk
    (repeat refine W_seq ?_); refine W_regionT [] ?_
    simp only [go_sem, decide_eq_false h101, decide_eq_false h105, decide_eq_false h107, decide_eq_false h109, decide_eq_false h121, decide_eq_false h123, decide_eq_false h127, decide_eq_false h111, decide_eq_false h113, decide_eq_false h115, decide_eq_false h117, decide_eq_false h119, decide_eq_false h125]
    (repeat refine W_seq ?_); refine W_regionT [] ?_
    simp only [go_sem, decide_eq_false h101, decide_eq_false h105, decide_eq_false h107, decide_eq_false h109, decide_eq_false h121, decide_eq_false h123, decide_eq_false h127, decide_eq_false h111, decide_eq_false h113, decide_eq_false h115, decide_eq_false h117, decide_eq_false h119, decide_eq_false h125]
    (repeat refine W_seq ?_)
    refine W_block ?_
    (repeat refine W_seq ?_); refine W_regionT [] ?_
    simp only [go_sem, decide_eq_false h101, decide_eq_false h105, decide_eq_false h107, decide_eq_false h109, decide_eq_false h121, decide_eq_false h123, decide_eq_false h127, decide_eq_false h111, decide_eq_false h113, decide_eq_false h115, decide_eq_false h117, decide_eq_false h119, decide_eq_false h125]
    (repeat refine W_seq ?_)
    refine W_cond (b := false) rfl ?_
    simp only [Bool.false_eq_true, if_false]
    (repeat refine W_seq ?_); refine W_regionT [] ?_
    simp only [go_sem, decide_eq_false h101, decide_eq_false h105, decide_eq_false h107, decide_eq_false h109, decide_eq_false h121, decide_eq_false h123, decide_eq_false h127, decide_eq_false h111, decide_eq_false h113, decide_eq_false h115, decide_eq_false h117, decide_eq_false h119, decide_eq_false h125]
    (repeat refine W_seq ?_)
    refine W_cond (b := false) rfl ?_
    simp only [Bool.false_eq_true, if_false]
    (repeat refine W_seq ?_); refine W_regionT [] ?_
    simp only [go_sem, decide_eq_false h101, decide_eq_false h105, decide_eq_false h107, decide_eq_false h109, decide_eq_false h121, decide_eq_false h123, decide_eq_false h127, decide_eq_false h111, decide_eq_false h113, decide_eq_false h115, decide_eq_false h117, decide_eq_false h119, decide_eq_false h125]
    (repeat refine W_seq ?_)
    refine W_cond (b := false) rfl ?_
    simp only [Bool.false_eq_true, if_false]
    (repeat refine W_seq ?_); refine W_regionT [] ?_
    simp only [go_sem, decide_eq_false h101, decide_eq_false h105, decide_eq_false h107, decide_eq_false h109, decide_eq_false h121, decide_eq_false h123, decide_eq_false h127, decide_eq_false h111, decide_eq_false h113, decide_eq_false h115, decide_eq_false h117, decide_eq_false h119, decide_eq_false h125]
    (repeat refine W_seq ?_)
    refine W_cond (b := false) rfl ?_
    simp only [Bool.false_eq_true, if_false]
    (repeat refine W_seq ?_); refine W_regionT [] ?_
    simp only [go_sem, decide_eq_false h101, decide_eq_false h105, decide_eq_false h107, decide_eq_false h109, decide_eq_false h121, decide_eq_false h123, decide_eq_false h127, decide_eq_false h111, decide_eq_false h113, decide_eq_false h115, decide_eq_false h117, decide_eq_false h119, decide_eq_false h125]
    (repeat refine W_seq ?_)
    refine W_cond (b := false) rfl ?_
    simp only [Bool.false_eq_true, if_false]
    (repeat refine W_seq ?_); refine W_regionT [] ?_
    simp only [go_sem, decide_eq_false h101, decide_eq_false h105, decide_eq_false h107, decide_eq_false h109, decide_eq_false h121, decide_eq_false h123, decide_eq_false h127, decide_eq_false h111, decide_eq_false h113, decide_eq_false h115, decide_eq_false h117, decide_eq_false h119, decide_eq_false h125]
    (repeat refine W_seq ?_)
    refine W_cond (b := false) rfl ?_
    simp only [Bool.false_eq_true, if_false]
    (repeat refine W_seq ?_); refine W_regionT [] ?_
    simp only [go_sem, decide_eq_false h101, decide_eq_false h105, decide_eq_false h107, decide_eq_false h109, decide_eq_false h121, decide_eq_false h123, decide_eq_false h127, decide_eq_false h111, decide_eq_false h113, decide_eq_false h115, decide_eq_false h117, decide_eq_false h119, decide_eq_false h125]
    (repeat refine W_seq ?_)
    refine W_cond (b := false) rfl ?_
    simp only [Bool.false_eq_true, if_false]
    (repeat refine W_seq ?_); refine W_regionT [] ?_
    simp only [go_sem, decide_eq_false h101, decide_eq_false h105, decide_eq_false h107, decide_eq_false h109, decide_eq_false h121, decide_eq_false h123, decide_eq_false h127, decide_eq_false h111, decide_eq_false h113, decide_eq_false h115, decide_eq_false h117, decide_eq_false h119, decide_eq_false h125]
    (repeat refine W_seq ?_)
    refine W_cond (b := false) rfl ?_
    simp only [Bool.false_eq_true, if_false]
    (repeat refine W_seq ?_); refine W_regionT [] ?_
    simp only [go_sem, decide_eq_false h101, decide_eq_false h105, decide_eq_false h107, decide_eq_false h109, decide_eq_false h121, decide_eq_false h123, decide_eq_false h127, decide_eq_false h111, decide_eq_false h113, decide_eq_false h115, decide_eq_false h117, decide_eq_false h119, decide_eq_false h125]
    (repeat refine W_seq ?_)
    refine W_cond (b := false) rfl ?_
    simp only [Bool.false_eq_true, if_false]
    (repeat refine W_seq ?_); refine W_regionT [] ?_
    simp only [go_sem, decide_eq_false h101, decide_eq_false h105, decide_eq_false h107, decide_eq_false h109, decide_eq_false h121, decide_eq_false h123, decide_eq_false h127, decide_eq_false h111, decide_eq_false h113, decide_eq_false h115, decide_eq_false h117, decide_eq_false h119, decide_eq_false h125]
    (repeat refine W_seq ?_)
    refine W_cond (b := false) rfl ?_
    simp only [Bool.false_eq_true, if_false]
    (repeat refine W_seq ?_); refine W_regionT [] ?_
    simp only [go_sem, decide_eq_false h101, decide_eq_false h105, decide_eq_false h107, decide_eq_false h109, decide_eq_false h121, decide_eq_false h123, decide_eq_false h127, decide_eq_false h111, decide_eq_false h113, decide_eq_false h115, decide_eq_false h117, decide_eq_false h119, decide_eq_false h125]
    (repeat refine W_seq ?_)
    refine W_cond (b := false) rfl ?_
    simp only [Bool.false_eq_true, if_false]
    (repeat refine W_seq ?_); refine W_regionT [] ?_
    simp only [go_sem, decide_eq_false h101, decide_eq_false h105, decide_eq_false h107, decide_eq_false h109, decide_eq_false h121, decide_eq_false h123, decide_eq_false h127, decide_eq_false h111, decide_eq_false h113, decide_eq_false h115, decide_eq_false h117, decide_eq_false h119, decide_eq_false h125]
    (repeat refine W_seq ?_)
    refine W_cond (b := false) rfl ?_
    simp only [Bool.false_eq_true, if_false]
    (repeat refine W_seq ?_); refine W_regionT [] ?_
    simp only [go_sem, decide_eq_false h101, decide_eq_false h105, decide_eq_false h107, decide_eq_false h109, decide_eq_false h121, decide_eq_false h123, decide_eq_false h127, decide_eq_false h111, decide_eq_false h113, decide_eq_false h115, decide_eq_false h117, decide_eq_false h119, decide_eq_false h125]
    (repeat refine W_seq ?_)
    refine W_cond (b := false) rfl ?_
    simp only [Bool.false_eq_true, if_false]
    refine W_skip ?_
    simp only [go_sem]
    (repeat refine W_seq ?_); refine W_regionT [] ?_
    simp only [go_sem, decide_eq_false h101, decide_eq_false h105, decide_eq_false h107, decide_eq_false h109, decide_eq_false h121, decide_eq_false h123, decide_eq_false h127, decide_eq_false h111, decide_eq_false h113, decide_eq_false h115, decide_eq_false h117, decide_eq_false h119, decide_eq_false h125]
    refine W_ret ⟨.inr rfl, _, rfl, rfl, ?_, rfl⟩
    rw [show tkind n = 0 from by unfold tkind; simp only [h101, h105, h107, h109, h121, h123, h127, h111, h113, h115, h117, h119, h125, if_false]]; rfl
def QidR.ok (q : QidR) : Bool := inB q.ver 0 4294967295 && inB q.path 0 4611686018427387904
theorem qcells_st (q : QidR) : q.cells.all AV.st = true := rfl
theorem known119 {q : QidR} : AC Try.prog 119 [.agg q.cells] ⟨H, S⟩ (fun v M' => v = .bool q.ok ∧ M' = ⟨H, S⟩) := by
  refine AC_of_WE Try.func119 rfl ?_
  simp only [Try.ntmps119, List.length_cons, List.length_nil, List.replicate, List.cons_append, List.nil_append, mem_enter]
  (repeat refine W_seq ?_); refine W_regionT [] ?_
  simp only [go_sem, yboxL (qcells_st q), List.nil_append, List.cons_append, List.length_nil, List.length_cons, Nat.zero_add, Nat.reduceAdd]
  rcases (show inB q.ver 0 4294967295 = true ∨ inB q.ver 0 4294967295 = false by cases inB q.ver 0 4294967295 <;> simp) with Q | Q
  · (repeat refine W_seq ?_); refine W_regionT [] ?_
    simp only [go_sem, Q, ya0_0, ya1_0, ya2_0, yl0_0, yl1_0, yl2_0, yL_0]
    refine AT_call rfl rfl (in116) fun v M1 hd1 h1 => ?_
    obtain ⟨hv, hM⟩ := h1; subst hv; subst hM
    simp only [go_sem, Q, ya0_0, ya1_0, ya2_0, yl0_0, yl1_0, yl2_0, yL_0]
    refine AT_call rfl rfl (in116) fun v M1 hd1 h1 => ?_
    obtain ⟨hv, hM⟩ := h1; subst hv; subst hM
    simp only [go_sem, Q, ya0_0, ya1_0, ya2_0, yl0_0, yl1_0, yl2_0, yL_0]
    refine W_ret ⟨.inr rfl, _, rfl, rfl, ?_, rfl⟩
    unfold QidR.ok; simp only [Q, Bool.and_true, Bool.true_and, Bool.false_and, Bool.and_false, Bool.not_true, Bool.not_false]; rfl
  · (repeat refine W_seq ?_); refine W_regionT [] ?_
    simp only [go_sem, Q, ya0_0, ya1_0, ya2_0, yl0_0, yl1_0, yl2_0, yL_0]
    refine AT_call rfl rfl (in116) fun v M1 hd1 h1 => ?_
    obtain ⟨hv, hM⟩ := h1; subst hv; subst hM
    simp only [go_sem, Q, ya0_0, ya1_0, ya2_0, yl0_0, yl1_0, yl2_0, yL_0]
    refine W_ret ⟨.inr rfl, _, rfl, rfl, ?_, rfl⟩
    unfold QidR.ok; simp only [Q, Bool.and_true, Bool.true_and, Bool.false_and, Bool.and_false, Bool.not_true, Bool.not_false]; rfl
theorem odd118 {q : QidR} : AC Try.prog 118 [.agg q.cells] ⟨H, S⟩ (fun v M' => v = .bool (!q.ok) ∧ M' = ⟨H, S⟩) := by
  refine AC_of_WE Try.func118 rfl ?_
  simp only [Try.ntmps118, List.length_cons, List.length_nil, List.replicate, List.cons_append, List.nil_append, mem_enter]
  (repeat refine W_seq ?_); refine W_regionT [] ?_
  simp only [go_sem, yboxL (qcells_st q), List.nil_append, List.cons_append, List.length_nil, List.length_cons, Nat.zero_add, Nat.reduceAdd]
  (repeat refine W_seq ?_); refine W_regionT [] ?_
  simp only [go_sem, ya0_0, ya1_0, ya2_0, yl0_0, yl1_0, yl2_0, yL_0]
  refine AT_call rfl rfl (known119) fun v M1 hd1 h1 => ?_
  obtain ⟨hv, hM⟩ := h1; subst hv; subst hM
  simp only [go_sem]
  exact W_ret ⟨.inr rfl, _, rfl, rfl, rfl, rfl⟩
theorem index144 {v : AV} {l : List QidR} (h : QL H v l) (hl : l.length < 1000000) : AC Try.prog 144 [v, .fn (.func 118) [] []] ⟨H, S⟩ (fun x M' => (∃ i : Int, x = .int .i64 i ∧ (decide (0 ≤ i) = l.any fun q => !q.ok)) ∧ M' = ⟨H, S⟩) := by
  refine AC_of_WE Try.func144 rfl ?_
  simp only [Try.ntmps144, List.length_cons, List.length_nil, List.replicate, List.cons_append, List.nil_append, mem_enter]
  (repeat refine W_seq ?_); refine W_regionT [] ?_
  simp only [go_sem]
  (repeat refine W_seq ?_); refine W_regionT [] ?_
  simp only [go_sem, h.len]
  (repeat refine W_seq ?_)
  refine W_block (W_loop (L_inv (fun j env M' => ∃ (x2 x3 x4 x5 x6 x9 x10 x11 x12 x13 x14 x15 x16 x17 x18 : AV) (i : Nat), env = [v, .fn (.func 118) [] [], x2, x3, x4, x5, x6, .int .i64 l.length, .int .i64 i, x9, x10, x11, x12, x13, x14, x15, x16, x17, x18] ∧ i + j = l.length ∧ M' = ⟨H, [] :: S⟩ ∧ ∀ m (hm : m < l.length), m < i → (!(l[m]'hm).ok) = false) (fun j env M2 => ?_) (l.length) ?_))
  case refine_2 => exact ⟨_, _, _, _, _, _, _, _, _, _, _, _, _, _, _, 0, rfl, by omega, rfl, fun m _ h => by omega⟩
  refine exE fun x2 => exE fun x3 => exE fun x4 => exE fun x5 => exE fun x6 => exE fun x9 => exE fun x10 => exE fun x11 => exE fun x12 => exE fun x13 => exE fun x14 => exE fun x15 => exE fun x16 => exE fun x17 => exE fun x18 => ?_
  rintro ⟨i, rfl, hij, rfl, hno'⟩
  (repeat refine W_seq ?_); refine W_regionT [] ?_
  simp only [go_sem]
  (repeat refine W_seq ?_)
  refine W_cond_if rfl (fun hb => ?_) (fun hb => ?_)
  · have hi : i < l.length := by simpa using hb
    refine W_skip ?_
    simp only [go_sem]
    (repeat refine W_seq ?_)
    refine W_block ?_
    (repeat refine W_seq ?_); refine W_regionT [] ?_
    simp only [go_sem]
    have a86 := at86 (S := [] :: S) h hi
    (repeat refine W_seq ?_); refine W_regionT [] ?_
    simp only [go_sem, a86.1, a86.2]
    refine AT_call rfl rfl (odd118) fun v M1 hd1 h1 => ?_
    obtain ⟨hv, hM⟩ := h1; subst hv; subst hM
    simp only [go_sem]
    (repeat refine W_seq ?_)
    refine W_cond_if rfl (fun hb => ?_) (fun hb => ?_)
    · have hlong : (!l[i].ok) = true := hb
      (repeat refine W_seq ?_); refine W_regionT [] ?_
      simp only [go_sem]
      refine W_ret ⟨.inr rfl, _, rfl, rfl, ⟨_, rfl, ?_⟩, rfl⟩
      rw [decide_eq_true (show (0 : Int) ≤ (i : Int) by omega)]
      exact (List.any_eq_true.2 ⟨l[i], List.getElem_mem hi, hlong⟩).symm
    · have hshort : (!l[i].ok) = false := hb
      refine W_skip ?_
      simp only [go_sem]
      (repeat refine W_seq ?_); refine W_regionT [] ?_
      simp only [go_sem, show (i : Int) + 1 = ((i + 1 : Nat) : Int) from rfl, wrap_i64 (n := ((i + 1 : Nat) : Int)) (by omega) (by omega)]
      refine ⟨j - 1, by omega, _, _, _, _, _, _, _, _, _, _, _, _, _, _, _, i + 1, rfl, by omega, trivial, fun m hm h => by
  rcases Nat.lt_or_ge m i with h2 | h2
  · exact hno' m hm h2
  · have : m = i := by omega
    subst this; exact hshort⟩
  · have hi : l.length = i := by simp at hb; omega
    have hno : ∀ m (hm : m < l.length), (!(l[m]'hm).ok) = false := fun m hm => hno' m hm (by omega)
    (repeat refine W_seq ?_)
    refine W_exit ?_
    simp only [go_sem]
    (repeat refine W_seq ?_); refine W_regionT [] ?_
    simp only [go_sem]
    refine W_ret ⟨.inr rfl, _, rfl, rfl, ⟨_, rfl, ?_⟩, rfl⟩
    rw [decide_eq_false (show ¬ (0 : Int) ≤ -1 by decide)]
    symm
    rw [List.any_eq_false]
    intro s hs
    obtain ⟨m, hm⟩ := List.getElem?_of_mem hs
    obtain ⟨hml, hme⟩ := List.getElem?_eq_some_iff.1 hm
    rw [← hme, hno m hml]; decide
theorem contains117 {v : AV} {l : List QidR} (h : QL H v l) (hl : l.length < 1000000) : AC Try.prog 117 [v, .fn (.func 118) [] []] ⟨H, S⟩ (fun x M' => x = .bool (l.any fun q => !q.ok) ∧ M' = ⟨H, S⟩) := by
  refine AC_of_WE Try.func117 rfl ?_
  simp only [Try.ntmps117, List.length_cons, List.length_nil, List.replicate, List.cons_append, List.nil_append, mem_enter]
  (repeat refine W_seq ?_); refine W_regionT [] ?_
  simp only [go_sem]
  (repeat refine W_seq ?_); refine W_regionT [] ?_
  simp only [go_sem]
  refine AT_call rfl rfl (index144 h hl) fun v M1 hd1 h1 => ?_
  obtain ⟨⟨i, rfl, hi2⟩, hM⟩ := h1; subst hM
  simp only [go_sem]
  refine W_ret ⟨.inr rfl, _, rfl, rfl, ?_, rfl⟩
  show AV.bool (decide ((0 : Int) ≤ i)) = _
  rw [hi2]
theorem equal121 {v w : AV} {l r : List QidR} (h1 : QL H v l) (h2 : QL H w r) (hl : l.length < 1000000) : AC Try.prog 121 [v, w] ⟨H, S⟩ (fun x M' => x = .bool (decide (l = r)) ∧ M' = ⟨H, S⟩) := by
  refine AC_of_WE Try.func121 rfl ?_
  simp only [Try.ntmps121, List.length_cons, List.length_nil, List.replicate, List.cons_append, List.nil_append, mem_enter]
  (repeat refine W_seq ?_); refine W_regionT [] ?_
  simp only [go_sem]
  rcases (show ¬ l.length = r.length ∨ l.length = r.length by omega) with hne | hne
  · have hc : ¬ (l.length : Int) = (r.length : Int) := by omega
    (repeat refine W_seq ?_); refine W_regionT [] ?_
    simp only [go_sem, h1.len, h2.len, hc]
    (repeat refine W_seq ?_)
    refine W_cond (b := true) rfl ?_
    simp only [if_true]
    (repeat refine W_seq ?_); refine W_regionT [] ?_
    simp only [go_sem]
    refine W_ret ⟨.inr rfl, _, rfl, rfl, ?_, rfl⟩
    rw [show decide (l = r) = false from decide_eq_false (fun h => hne (by rw [h]))]; rfl
  · have hc : (l.length : Int) = (r.length : Int) := by omega
    (repeat refine W_seq ?_); refine W_regionT [] ?_
    simp only [go_sem, h1.len, h2.len, hc]
    (repeat refine W_seq ?_)
    refine W_cond (b := false) rfl ?_
    simp only [Bool.false_eq_true, if_false]
    refine W_skip ?_
    simp only [go_sem]
    (repeat refine W_seq ?_); refine W_regionT [] ?_
    simp only [go_sem, h1.len]
    (repeat refine W_seq ?_)
    refine W_block (W_loop (L_inv (fun j env M' => ∃ (x2 x3 x4 x5 x6 x7 x8 x9 x10 x11 x14 x15 x16 x17 x18 x19 x20 x21 x22 x23 x24 x25 : AV) (i : Nat), env = [v, w, x2, x3, x4, x5, x6, x7, x8, x9, x10, x11, .int .i64 l.length, .int .i64 i, x14, x15, x16, x17, x18, x19, x20, x21, x22, x23, x24, x25] ∧ i + j = l.length ∧ M' = ⟨H, [] :: S⟩ ∧ ∀ m, m < i → l[m]? = r[m]?) (fun j env M2 => ?_) (l.length) ?_))
    case refine_2 => exact ⟨_, _, _, _, _, _, _, _, _, _, _, _, _, _, _, _, _, _, _, _, _, _, 0, rfl, by omega, rfl, fun m hm => by omega⟩
    refine exE fun x2 => exE fun x3 => exE fun x4 => exE fun x5 => exE fun x6 => exE fun x7 => exE fun x8 => exE fun x9 => exE fun x10 => exE fun x11 => exE fun x14 => exE fun x15 => exE fun x16 => exE fun x17 => exE fun x18 => exE fun x19 => exE fun x20 => exE fun x21 => exE fun x22 => exE fun x23 => exE fun x24 => exE fun x25 => ?_
    rintro ⟨i, rfl, hij, rfl, heq⟩
    (repeat refine W_seq ?_); refine W_regionT [] ?_
    simp only [go_sem]
    (repeat refine W_seq ?_)
    refine W_cond_if rfl (fun hb => ?_) (fun hb => ?_)
    · have hi : i < l.length := by simpa using hb
      refine W_skip ?_
      simp only [go_sem]
      (repeat refine W_seq ?_)
      refine W_block ?_
      (repeat refine W_seq ?_); refine W_regionT [] ?_
      simp only [go_sem]
      rcases (Classical.em (l[i] = (r[i]'(by omega)))) with hx | hx
      · have hx' : decide (l[i] = (r[i]'(by omega))) = true := decide_eq_true hx
        have heq' : ∀ m, m < i + 1 → l[m]? = r[m]? := fun m hm => by
          rcases Nat.lt_or_ge m i with h | h
          · exact heq m h
          · have : m = i := by omega
            subst this
            rw [List.getElem?_eq_getElem hi, List.getElem?_eq_getElem (show m < r.length by omega), hx]
        have hir : i < r.length := by omega
        have a1 := at86 (S := [] :: S) h1 hi
        have a2 := at86 (S := [] :: S) h2 hir
        (repeat refine W_seq ?_); refine W_regionC [] [] [0, 1, 2, 3, 4, 5, 6, 7, 8] [0, 0, 3, 7, 0, 0, 48, 112, 255] mixedM (by kernel_rfl) (by kernel_rfl) (by kernel_rfl) (by kernel_rfl) ?_
        simp only [listed, go_sem, a1.1, a1.2, a2.1, a2.2, bne85, hx', List.map_cons, List.map_nil]
        (repeat refine W_seq ?_)
        refine W_cond (b := false) rfl ?_
        simp only [Bool.false_eq_true, if_false]
        refine W_skip ?_
        simp only [go_sem]
        (repeat refine W_seq ?_); refine W_regionT [] ?_
        simp only [go_sem, show (i : Int) + 1 = ((i + 1 : Nat) : Int) from rfl, wrap_i64 (n := ((i + 1 : Nat) : Int)) (by omega) (by omega)]
        refine ⟨j - 1, by omega, _, _, _, _, _, _, _, _, _, _, _, _, _, _, _, _, _, _, _, _, _, _, i + 1, rfl, by omega, trivial, heq'⟩
      · have hx' : decide (l[i] = (r[i]'(by omega))) = false := decide_eq_false hx
        have hir : i < r.length := by omega
        have a1 := at86 (S := [] :: S) h1 hi
        have a2 := at86 (S := [] :: S) h2 hir
        (repeat refine W_seq ?_); refine W_regionC [] [] [0, 1, 2, 3, 4, 5, 6, 7, 8] [0, 0, 3, 7, 0, 0, 48, 112, 255] mixedM (by kernel_rfl) (by kernel_rfl) (by kernel_rfl) (by kernel_rfl) ?_
        simp only [listed, go_sem, a1.1, a1.2, a2.1, a2.2, bne85, hx', List.map_cons, List.map_nil]
        (repeat refine W_seq ?_)
        refine W_cond (b := true) rfl ?_
        simp only [if_true]
        (repeat refine W_seq ?_); refine W_regionT [] ?_
        simp only [go_sem]
        refine W_ret ⟨.inr rfl, _, rfl, rfl, ?_, rfl⟩
        rw [show decide (l = r) = false from decide_eq_false (fun h => hx (by subst h; rfl))]; rfl
    · have hi : l.length = i := by simp at hb; omega
      rw [← hi] at heq
      (repeat refine W_seq ?_)
      refine W_exit ?_
      simp only [go_sem]
      (repeat refine W_seq ?_); refine W_regionT [] ?_
      simp only [go_sem]
      refine W_ret ⟨.inr rfl, _, rfl, rfl, ?_, rfl⟩
      rw [show decide (l = r) = true from decide_eq_true ?_]; rfl
      apply List.ext_getElem?
      intro m
      rcases Nat.lt_or_ge m l.length with hm | hm
      · exact heq m hm
      · rw [List.getElem?_eq_none hm, List.getElem?_eq_none (by omega)]
theorem tsame_eq {a b : TellR} : decide (a = b) = ((decide (a.ty = b.ty) && decide (a.tag = b.tag) && decide (a.code = b.code) && decide (a.msize = b.msize) && decide (a.iounit = b.iounit) && decide (a.count = b.count)) && (a.name == b.name) && decide (a.q = b.q) && decide (a.s = b.s) && decide (a.qids = b.qids) && (a.data == b.data)) := by
  obtain ⟨a0, a1, a2, a3, a4, a5, a6, a7, a8, a9, a10⟩ := a
  obtain ⟨b0, b1, b2, b3, b4, b5, b6, b7, b8, b9, b10⟩ := b
  rw [Bool.eq_iff_iff]
  simp only [Bool.and_eq_true, decide_eq_true_eq, beq_iff_eq, TellR.mk.injEq]
  exact ⟨fun ⟨h0, h1, h2, h3, h4, h5, h6, h7, h8, h9, h10⟩ => ⟨⟨⟨⟨⟨⟨⟨⟨⟨⟨h0, h1⟩, h2⟩, h3⟩, h4⟩, h5⟩, h6⟩, h7⟩, h10⟩, h8⟩, h9⟩, fun ⟨⟨⟨⟨⟨⟨⟨⟨⟨⟨h0, h1⟩, h2⟩, h3⟩, h4⟩, h5⟩, h6⟩, h7⟩, h10⟩, h8⟩, h9⟩ => ⟨h0, h1, h2, h3, h4, h5, h6, h7, h8, h9, h10⟩⟩
theorem same68 {v w : AV} {a b : TellR} (ha : TellV H v a) (hb0 : TellV H w b) (hl : a.qids.length < 1000000) : AC Try.prog 68 [v, w] ⟨H, S⟩ (fun x M' => x = .bool (decide (a = b)) ∧ M' = ⟨H, S⟩) := by
  refine AC_of_WE Try.func68 rfl ?_
  simp only [Try.ntmps68, List.length_cons, List.length_nil, List.replicate, List.cons_append, List.nil_append, mem_enter]
  obtain ⟨vn, vd, rfl, hn, hd⟩ := ha
  obtain ⟨wn, wd, rfl, hn2, hd2⟩ := hb0
  have st1 := tcells_st a hn.one.1 hd.one.1
  have st2 := tcells_st b hn2.one.1 hd2.one.1
  (repeat refine W_seq ?_); refine W_regionT [] ?_
  simp only [go_sem, wboxL st1, wboxL st2, List.nil_append, List.cons_append, List.length_nil, List.length_cons, Nat.zero_add, Nat.reduceAdd]
  (repeat refine W_seq ?_)
  refine W_mid (fun env M' => ∃ (x4 x6 x7 x8 x9 x10 x11 x12 x13 x14 x15 x16 x17 x18 x19 x20 x21 x22 x23 x24 x25 x26 x27 x28 x29 x30 x31 x32 x33 x34 x35 x36 x37 x38 x39 x40 x41 x42 x43 x44 x45 x46 x47 x48 x49 x50 x51 x52 x53 x54 x55 x56 x57 x58 x59 x60 x61 x62 x63 x64 x65 x66 x67 x68 x69 x70 x71 x72 x73 x74 x75 x76 x77 x78 x79 x80 x81 : AV) (p : Bool), env = [.agg (a.cells vn vd), .agg (b.cells wn wd), .ptr ⟨S.length + 1, 0, 0⟩, .ptr ⟨S.length + 1, 1, 0⟩, x4, .bool p, x6, x7, x8, x9, x10, x11, x12, x13, x14, x15, x16, x17, x18, x19, x20, x21, x22, x23, x24, x25, x26, x27, x28, x29, x30, x31, x32, x33, x34, x35, x36, x37, x38, x39, x40, x41, x42, x43, x44, x45, x46, x47, x48, x49, x50, x51, x52, x53, x54, x55, x56, x57, x58, x59, x60, x61, x62, x63, x64, x65, x66, x67, x68, x69, x70, x71, x72, x73, x74, x75, x76, x77, x78, x79, x80, x81] ∧ p = (decide (a.ty = b.ty) && decide (a.tag = b.tag) && decide (a.code = b.code) && decide (a.msize = b.msize) && decide (a.iounit = b.iounit) && decide (a.count = b.count)) ∧ M' = ⟨H, [.row ⟨90, 18, a.cells vn vd, false, false⟩, .row ⟨90, 18, b.cells wn wd, false, false⟩] :: S⟩) ?_ ?_
  · rcases ff6 (decide (a.ty = b.ty)) (decide (a.tag = b.tag)) (decide (a.code = b.code)) (decide (a.msize = b.msize)) (decide (a.iounit = b.iounit)) (decide (a.count = b.count)) with Q | Q | Q | Q | Q | Q | Q
    · (repeat refine W_seq ?_); refine W_regionT [] ?_
      simp (maxSteps := 1000000) only [go_sem, Q, beq85, beq88, wa0_0, wa1_0, wa2_0, wa3_0, wa4_0, wa5_0, wa6_0, wa7_0, wa8_0, wa9_0, wa10_0, wa88_12_0, wa88_15_0, wa88_16_0, wa88_17_0, wa85_7_0, wa85_8_0, wa85_9_0, wa85_13_0, wa85_14_0, wl0_0, wl1_0, wl2_0, wl3_0, wl4_0, wl5_0, wl6_0, wl7_0, wl8_0, wl9_0, wl10_0, wl11_0, wl12_0, wl13_0, wl14_0, wl15_0, wl16_0, wl17_0, wl7g85_0, wl12g85_0, wl12g88_0, wL_0, wa0_1, wa1_1, wa2_1, wa3_1, wa4_1, wa5_1, wa6_1, wa7_1, wa8_1, wa9_1, wa10_1, wa88_12_1, wa88_15_1, wa88_16_1, wa88_17_1, wa85_7_1, wa85_8_1, wa85_9_1, wa85_13_1, wa85_14_1, wl0_1, wl1_1, wl2_1, wl3_1, wl4_1, wl5_1, wl6_1, wl7_1, wl8_1, wl9_1, wl10_1, wl11_1, wl12_1, wl13_1, wl14_1, wl15_1, wl16_1, wl17_1, wl7g85_1, wl12g85_1, wl12g88_1, wL_1]
      exact ⟨_, _, _, _, _, _, _, _, _, _, _, _, _, _, _, _, _, _, _, _, _, _, _, _, _, _, _, _, _, _, _, _, _, _, _, _, _, _, _, _, _, _, _, _, _, _, _, _, _, _, _, _, _, _, _, _, _, _, _, _, _, _, _, _, _, _, _, _, _, _, _, _, _, _, _, _, _, _, rfl, by simp only [Q, Bool.and_true, Bool.true_and, Bool.false_and, Bool.and_false, Bool.not_true, Bool.not_false], rfl⟩
    · (repeat refine W_seq ?_); refine W_regionT [] ?_
      simp (maxSteps := 1000000) only [go_sem, Q, beq85, beq88, wa0_0, wa1_0, wa2_0, wa3_0, wa4_0, wa5_0, wa6_0, wa7_0, wa8_0, wa9_0, wa10_0, wa88_12_0, wa88_15_0, wa88_16_0, wa88_17_0, wa85_7_0, wa85_8_0, wa85_9_0, wa85_13_0, wa85_14_0, wl0_0, wl1_0, wl2_0, wl3_0, wl4_0, wl5_0, wl6_0, wl7_0, wl8_0, wl9_0, wl10_0, wl11_0, wl12_0, wl13_0, wl14_0, wl15_0, wl16_0, wl17_0, wl7g85_0, wl12g85_0, wl12g88_0, wL_0, wa0_1, wa1_1, wa2_1, wa3_1, wa4_1, wa5_1, wa6_1, wa7_1, wa8_1, wa9_1, wa10_1, wa88_12_1, wa88_15_1, wa88_16_1, wa88_17_1, wa85_7_1, wa85_8_1, wa85_9_1, wa85_13_1, wa85_14_1, wl0_1, wl1_1, wl2_1, wl3_1, wl4_1, wl5_1, wl6_1, wl7_1, wl8_1, wl9_1, wl10_1, wl11_1, wl12_1, wl13_1, wl14_1, wl15_1, wl16_1, wl17_1, wl7g85_1, wl12g85_1, wl12g88_1, wL_1]
      exact ⟨_, _, _, _, _, _, _, _, _, _, _, _, _, _, _, _, _, _, _, _, _, _, _, _, _, _, _, _, _, _, _, _, _, _, _, _, _, _, _, _, _, _, _, _, _, _, _, _, _, _, _, _, _, _, _, _, _, _, _, _, _, _, _, _, _, _, _, _, _, _, _, _, _, _, _, _, _, _, rfl, by simp only [Q, Bool.and_true, Bool.true_and, Bool.false_and, Bool.and_false, Bool.not_true, Bool.not_false], rfl⟩
    · (repeat refine W_seq ?_); refine W_regionT [] ?_
      simp (maxSteps := 1000000) only [go_sem, Q, beq85, beq88, wa0_0, wa1_0, wa2_0, wa3_0, wa4_0, wa5_0, wa6_0, wa7_0, wa8_0, wa9_0, wa10_0, wa88_12_0, wa88_15_0, wa88_16_0, wa88_17_0, wa85_7_0, wa85_8_0, wa85_9_0, wa85_13_0, wa85_14_0, wl0_0, wl1_0, wl2_0, wl3_0, wl4_0, wl5_0, wl6_0, wl7_0, wl8_0, wl9_0, wl10_0, wl11_0, wl12_0, wl13_0, wl14_0, wl15_0, wl16_0, wl17_0, wl7g85_0, wl12g85_0, wl12g88_0, wL_0, wa0_1, wa1_1, wa2_1, wa3_1, wa4_1, wa5_1, wa6_1, wa7_1, wa8_1, wa9_1, wa10_1, wa88_12_1, wa88_15_1, wa88_16_1, wa88_17_1, wa85_7_1, wa85_8_1, wa85_9_1, wa85_13_1, wa85_14_1, wl0_1, wl1_1, wl2_1, wl3_1, wl4_1, wl5_1, wl6_1, wl7_1, wl8_1, wl9_1, wl10_1, wl11_1, wl12_1, wl13_1, wl14_1, wl15_1, wl16_1, wl17_1, wl7g85_1, wl12g85_1, wl12g88_1, wL_1]
      exact ⟨_, _, _, _, _, _, _, _, _, _, _, _, _, _, _, _, _, _, _, _, _, _, _, _, _, _, _, _, _, _, _, _, _, _, _, _, _, _, _, _, _, _, _, _, _, _, _, _, _, _, _, _, _, _, _, _, _, _, _, _, _, _, _, _, _, _, _, _, _, _, _, _, _, _, _, _, _, _, rfl, by simp only [Q, Bool.and_true, Bool.true_and, Bool.false_and, Bool.and_false, Bool.not_true, Bool.not_false], rfl⟩
    · (repeat refine W_seq ?_); refine W_regionT [] ?_
      simp (maxSteps := 1000000) only [go_sem, Q, beq85, beq88, wa0_0, wa1_0, wa2_0, wa3_0, wa4_0, wa5_0, wa6_0, wa7_0, wa8_0, wa9_0, wa10_0, wa88_12_0, wa88_15_0, wa88_16_0, wa88_17_0, wa85_7_0, wa85_8_0, wa85_9_0, wa85_13_0, wa85_14_0, wl0_0, wl1_0, wl2_0, wl3_0, wl4_0, wl5_0, wl6_0, wl7_0, wl8_0, wl9_0, wl10_0, wl11_0, wl12_0, wl13_0, wl14_0, wl15_0, wl16_0, wl17_0, wl7g85_0, wl12g85_0, wl12g88_0, wL_0, wa0_1, wa1_1, wa2_1, wa3_1, wa4_1, wa5_1, wa6_1, wa7_1, wa8_1, wa9_1, wa10_1, wa88_12_1, wa88_15_1, wa88_16_1, wa88_17_1, wa85_7_1, wa85_8_1, wa85_9_1, wa85_13_1, wa85_14_1, wl0_1, wl1_1, wl2_1, wl3_1, wl4_1, wl5_1, wl6_1, wl7_1, wl8_1, wl9_1, wl10_1, wl11_1, wl12_1, wl13_1, wl14_1, wl15_1, wl16_1, wl17_1, wl7g85_1, wl12g85_1, wl12g88_1, wL_1]
      exact ⟨_, _, _, _, _, _, _, _, _, _, _, _, _, _, _, _, _, _, _, _, _, _, _, _, _, _, _, _, _, _, _, _, _, _, _, _, _, _, _, _, _, _, _, _, _, _, _, _, _, _, _, _, _, _, _, _, _, _, _, _, _, _, _, _, _, _, _, _, _, _, _, _, _, _, _, _, _, _, rfl, by simp only [Q, Bool.and_true, Bool.true_and, Bool.false_and, Bool.and_false, Bool.not_true, Bool.not_false], rfl⟩
    · (repeat refine W_seq ?_); refine W_regionT [] ?_
      simp (maxSteps := 1000000) only [go_sem, Q, beq85, beq88, wa0_0, wa1_0, wa2_0, wa3_0, wa4_0, wa5_0, wa6_0, wa7_0, wa8_0, wa9_0, wa10_0, wa88_12_0, wa88_15_0, wa88_16_0, wa88_17_0, wa85_7_0, wa85_8_0, wa85_9_0, wa85_13_0, wa85_14_0, wl0_0, wl1_0, wl2_0, wl3_0, wl4_0, wl5_0, wl6_0, wl7_0, wl8_0, wl9_0, wl10_0, wl11_0, wl12_0, wl13_0, wl14_0, wl15_0, wl16_0, wl17_0, wl7g85_0, wl12g85_0, wl12g88_0, wL_0, wa0_1, wa1_1, wa2_1, wa3_1, wa4_1, wa5_1, wa6_1, wa7_1, wa8_1, wa9_1, wa10_1, wa88_12_1, wa88_15_1, wa88_16_1, wa88_17_1, wa85_7_1, wa85_8_1, wa85_9_1, wa85_13_1, wa85_14_1, wl0_1, wl1_1, wl2_1, wl3_1, wl4_1, wl5_1, wl6_1, wl7_1, wl8_1, wl9_1, wl10_1, wl11_1, wl12_1, wl13_1, wl14_1, wl15_1, wl16_1, wl17_1, wl7g85_1, wl12g85_1, wl12g88_1, wL_1]
      exact ⟨_, _, _, _, _, _, _, _, _, _, _, _, _, _, _, _, _, _, _, _, _, _, _, _, _, _, _, _, _, _, _, _, _, _, _, _, _, _, _, _, _, _, _, _, _, _, _, _, _, _, _, _, _, _, _, _, _, _, _, _, _, _, _, _, _, _, _, _, _, _, _, _, _, _, _, _, _, _, rfl, by simp only [Q, Bool.and_true, Bool.true_and, Bool.false_and, Bool.and_false, Bool.not_true, Bool.not_false], rfl⟩
    · (repeat refine W_seq ?_); refine W_regionT [] ?_
      simp (maxSteps := 1000000) only [go_sem, Q, beq85, beq88, wa0_0, wa1_0, wa2_0, wa3_0, wa4_0, wa5_0, wa6_0, wa7_0, wa8_0, wa9_0, wa10_0, wa88_12_0, wa88_15_0, wa88_16_0, wa88_17_0, wa85_7_0, wa85_8_0, wa85_9_0, wa85_13_0, wa85_14_0, wl0_0, wl1_0, wl2_0, wl3_0, wl4_0, wl5_0, wl6_0, wl7_0, wl8_0, wl9_0, wl10_0, wl11_0, wl12_0, wl13_0, wl14_0, wl15_0, wl16_0, wl17_0, wl7g85_0, wl12g85_0, wl12g88_0, wL_0, wa0_1, wa1_1, wa2_1, wa3_1, wa4_1, wa5_1, wa6_1, wa7_1, wa8_1, wa9_1, wa10_1, wa88_12_1, wa88_15_1, wa88_16_1, wa88_17_1, wa85_7_1, wa85_8_1, wa85_9_1, wa85_13_1, wa85_14_1, wl0_1, wl1_1, wl2_1, wl3_1, wl4_1, wl5_1, wl6_1, wl7_1, wl8_1, wl9_1, wl10_1, wl11_1, wl12_1, wl13_1, wl14_1, wl15_1, wl16_1, wl17_1, wl7g85_1, wl12g85_1, wl12g88_1, wL_1]
      exact ⟨_, _, _, _, _, _, _, _, _, _, _, _, _, _, _, _, _, _, _, _, _, _, _, _, _, _, _, _, _, _, _, _, _, _, _, _, _, _, _, _, _, _, _, _, _, _, _, _, _, _, _, _, _, _, _, _, _, _, _, _, _, _, _, _, _, _, _, _, _, _, _, _, _, _, _, _, _, _, rfl, by simp only [Q, Bool.and_true, Bool.true_and, Bool.false_and, Bool.and_false, Bool.not_true, Bool.not_false], rfl⟩
    · (repeat refine W_seq ?_); refine W_regionT [] ?_
      simp (maxSteps := 1000000) only [go_sem, Q, beq85, beq88, wa0_0, wa1_0, wa2_0, wa3_0, wa4_0, wa5_0, wa6_0, wa7_0, wa8_0, wa9_0, wa10_0, wa88_12_0, wa88_15_0, wa88_16_0, wa88_17_0, wa85_7_0, wa85_8_0, wa85_9_0, wa85_13_0, wa85_14_0, wl0_0, wl1_0, wl2_0, wl3_0, wl4_0, wl5_0, wl6_0, wl7_0, wl8_0, wl9_0, wl10_0, wl11_0, wl12_0, wl13_0, wl14_0, wl15_0, wl16_0, wl17_0, wl7g85_0, wl12g85_0, wl12g88_0, wL_0, wa0_1, wa1_1, wa2_1, wa3_1, wa4_1, wa5_1, wa6_1, wa7_1, wa8_1, wa9_1, wa10_1, wa88_12_1, wa88_15_1, wa88_16_1, wa88_17_1, wa85_7_1, wa85_8_1, wa85_9_1, wa85_13_1, wa85_14_1, wl0_1, wl1_1, wl2_1, wl3_1, wl4_1, wl5_1, wl6_1, wl7_1, wl8_1, wl9_1, wl10_1, wl11_1, wl12_1, wl13_1, wl14_1, wl15_1, wl16_1, wl17_1, wl7g85_1, wl12g85_1, wl12g88_1, wL_1]
      exact ⟨_, _, _, _, _, _, _, _, _, _, _, _, _, _, _, _, _, _, _, _, _, _, _, _, _, _, _, _, _, _, _, _, _, _, _, _, _, _, _, _, _, _, _, _, _, _, _, _, _, _, _, _, _, _, _, _, _, _, _, _, _, _, _, _, _, _, _, _, _, _, _, _, _, _, _, _, _, _, rfl, by simp only [Q, Bool.and_true, Bool.true_and, Bool.false_and, Bool.and_false, Bool.not_true, Bool.not_false], rfl⟩
  refine fun env M' => ?_
  refine exE fun x4 => exE fun x6 => exE fun x7 => exE fun x8 => exE fun x9 => exE fun x10 => exE fun x11 => exE fun x12 => exE fun x13 => exE fun x14 => exE fun x15 => exE fun x16 => exE fun x17 => exE fun x18 => exE fun x19 => exE fun x20 => exE fun x21 => exE fun x22 => exE fun x23 => exE fun x24 => exE fun x25 => exE fun x26 => exE fun x27 => exE fun x28 => exE fun x29 => exE fun x30 => exE fun x31 => exE fun x32 => exE fun x33 => exE fun x34 => exE fun x35 => exE fun x36 => exE fun x37 => exE fun x38 => exE fun x39 => exE fun x40 => exE fun x41 => exE fun x42 => exE fun x43 => exE fun x44 => exE fun x45 => exE fun x46 => exE fun x47 => exE fun x48 => exE fun x49 => exE fun x50 => exE fun x51 => exE fun x52 => exE fun x53 => exE fun x54 => exE fun x55 => exE fun x56 => exE fun x57 => exE fun x58 => exE fun x59 => exE fun x60 => exE fun x61 => exE fun x62 => exE fun x63 => exE fun x64 => exE fun x65 => exE fun x66 => exE fun x67 => exE fun x68 => exE fun x69 => exE fun x70 => exE fun x71 => exE fun x72 => exE fun x73 => exE fun x74 => exE fun x75 => exE fun x76 => exE fun x77 => exE fun x78 => exE fun x79 => exE fun x80 => exE fun x81 => ?_
  rintro ⟨p, rfl, hp1, rfl⟩
  rcases ff6 (p) ((a.name == b.name)) (decide (a.q = b.q)) (decide (a.s = b.s)) (decide (a.qids = b.qids)) ((a.data == b.data)) with Q | Q | Q | Q | Q | Q | Q
  · (repeat refine W_seq ?_); refine W_regionT [] ?_
    simp (maxSteps := 1000000) only [go_sem, Q, beq85, beq88, wa0_0, wa1_0, wa2_0, wa3_0, wa4_0, wa5_0, wa6_0, wa7_0, wa8_0, wa9_0, wa10_0, wa88_12_0, wa88_15_0, wa88_16_0, wa88_17_0, wa85_7_0, wa85_8_0, wa85_9_0, wa85_13_0, wa85_14_0, wl0_0, wl1_0, wl2_0, wl3_0, wl4_0, wl5_0, wl6_0, wl7_0, wl8_0, wl9_0, wl10_0, wl11_0, wl12_0, wl13_0, wl14_0, wl15_0, wl16_0, wl17_0, wl7g85_0, wl12g85_0, wl12g88_0, wL_0, wa0_1, wa1_1, wa2_1, wa3_1, wa4_1, wa5_1, wa6_1, wa7_1, wa8_1, wa9_1, wa10_1, wa88_12_1, wa88_15_1, wa88_16_1, wa88_17_1, wa85_7_1, wa85_8_1, wa85_9_1, wa85_13_1, wa85_14_1, wl0_1, wl1_1, wl2_1, wl3_1, wl4_1, wl5_1, wl6_1, wl7_1, wl8_1, wl9_1, wl10_1, wl11_1, wl12_1, wl13_1, wl14_1, wl15_1, wl16_1, wl17_1, wl7g85_1, wl12g85_1, wl12g88_1, wL_1]
    refine W_ret ⟨.inr rfl, _, rfl, rfl, ?_, rfl⟩
    rw [tsame_eq, ← hp1]; simp only [Q, Bool.and_true, Bool.true_and, Bool.false_and, Bool.and_false, Bool.not_true, Bool.not_false]; rfl
  · (repeat refine W_seq ?_); refine W_regionT [] ?_
    simp (maxSteps := 1000000) only [go_sem, Q, beq85, beq88, wa0_0, wa1_0, wa2_0, wa3_0, wa4_0, wa5_0, wa6_0, wa7_0, wa8_0, wa9_0, wa10_0, wa88_12_0, wa88_15_0, wa88_16_0, wa88_17_0, wa85_7_0, wa85_8_0, wa85_9_0, wa85_13_0, wa85_14_0, wl0_0, wl1_0, wl2_0, wl3_0, wl4_0, wl5_0, wl6_0, wl7_0, wl8_0, wl9_0, wl10_0, wl11_0, wl12_0, wl13_0, wl14_0, wl15_0, wl16_0, wl17_0, wl7g85_0, wl12g85_0, wl12g88_0, wL_0, wa0_1, wa1_1, wa2_1, wa3_1, wa4_1, wa5_1, wa6_1, wa7_1, wa8_1, wa9_1, wa10_1, wa88_12_1, wa88_15_1, wa88_16_1, wa88_17_1, wa85_7_1, wa85_8_1, wa85_9_1, wa85_13_1, wa85_14_1, wl0_1, wl1_1, wl2_1, wl3_1, wl4_1, wl5_1, wl6_1, wl7_1, wl8_1, wl9_1, wl10_1, wl11_1, wl12_1, wl13_1, wl14_1, wl15_1, wl16_1, wl17_1, wl7g85_1, wl12g85_1, wl12g88_1, wL_1]
    refine W_ret ⟨.inr rfl, _, rfl, rfl, ?_, rfl⟩
    rw [tsame_eq, ← hp1]; simp only [Q, Bool.and_true, Bool.true_and, Bool.false_and, Bool.and_false, Bool.not_true, Bool.not_false]; rfl
  · (repeat refine W_seq ?_); refine W_regionT [] ?_
    simp (maxSteps := 1000000) only [go_sem, Q, beq85, beq88, wa0_0, wa1_0, wa2_0, wa3_0, wa4_0, wa5_0, wa6_0, wa7_0, wa8_0, wa9_0, wa10_0, wa88_12_0, wa88_15_0, wa88_16_0, wa88_17_0, wa85_7_0, wa85_8_0, wa85_9_0, wa85_13_0, wa85_14_0, wl0_0, wl1_0, wl2_0, wl3_0, wl4_0, wl5_0, wl6_0, wl7_0, wl8_0, wl9_0, wl10_0, wl11_0, wl12_0, wl13_0, wl14_0, wl15_0, wl16_0, wl17_0, wl7g85_0, wl12g85_0, wl12g88_0, wL_0, wa0_1, wa1_1, wa2_1, wa3_1, wa4_1, wa5_1, wa6_1, wa7_1, wa8_1, wa9_1, wa10_1, wa88_12_1, wa88_15_1, wa88_16_1, wa88_17_1, wa85_7_1, wa85_8_1, wa85_9_1, wa85_13_1, wa85_14_1, wl0_1, wl1_1, wl2_1, wl3_1, wl4_1, wl5_1, wl6_1, wl7_1, wl8_1, wl9_1, wl10_1, wl11_1, wl12_1, wl13_1, wl14_1, wl15_1, wl16_1, wl17_1, wl7g85_1, wl12g85_1, wl12g88_1, wL_1]
    refine W_ret ⟨.inr rfl, _, rfl, rfl, ?_, rfl⟩
    rw [tsame_eq, ← hp1]; simp only [Q, Bool.and_true, Bool.true_and, Bool.false_and, Bool.and_false, Bool.not_true, Bool.not_false]; rfl
  · (repeat refine W_seq ?_); refine W_regionT [] ?_
    simp (maxSteps := 1000000) only [go_sem, Q, beq85, beq88, wa0_0, wa1_0, wa2_0, wa3_0, wa4_0, wa5_0, wa6_0, wa7_0, wa8_0, wa9_0, wa10_0, wa88_12_0, wa88_15_0, wa88_16_0, wa88_17_0, wa85_7_0, wa85_8_0, wa85_9_0, wa85_13_0, wa85_14_0, wl0_0, wl1_0, wl2_0, wl3_0, wl4_0, wl5_0, wl6_0, wl7_0, wl8_0, wl9_0, wl10_0, wl11_0, wl12_0, wl13_0, wl14_0, wl15_0, wl16_0, wl17_0, wl7g85_0, wl12g85_0, wl12g88_0, wL_0, wa0_1, wa1_1, wa2_1, wa3_1, wa4_1, wa5_1, wa6_1, wa7_1, wa8_1, wa9_1, wa10_1, wa88_12_1, wa88_15_1, wa88_16_1, wa88_17_1, wa85_7_1, wa85_8_1, wa85_9_1, wa85_13_1, wa85_14_1, wl0_1, wl1_1, wl2_1, wl3_1, wl4_1, wl5_1, wl6_1, wl7_1, wl8_1, wl9_1, wl10_1, wl11_1, wl12_1, wl13_1, wl14_1, wl15_1, wl16_1, wl17_1, wl7g85_1, wl12g85_1, wl12g88_1, wL_1]
    refine W_ret ⟨.inr rfl, _, rfl, rfl, ?_, rfl⟩
    rw [tsame_eq, ← hp1]; simp only [Q, Bool.and_true, Bool.true_and, Bool.false_and, Bool.and_false, Bool.not_true, Bool.not_false]; rfl
  · (repeat refine W_seq ?_); refine W_regionT [] ?_
    simp (maxSteps := 1000000) only [go_sem, Q, beq85, beq88, wa0_0, wa1_0, wa2_0, wa3_0, wa4_0, wa5_0, wa6_0, wa7_0, wa8_0, wa9_0, wa10_0, wa88_12_0, wa88_15_0, wa88_16_0, wa88_17_0, wa85_7_0, wa85_8_0, wa85_9_0, wa85_13_0, wa85_14_0, wl0_0, wl1_0, wl2_0, wl3_0, wl4_0, wl5_0, wl6_0, wl7_0, wl8_0, wl9_0, wl10_0, wl11_0, wl12_0, wl13_0, wl14_0, wl15_0, wl16_0, wl17_0, wl7g85_0, wl12g85_0, wl12g88_0, wL_0, wa0_1, wa1_1, wa2_1, wa3_1, wa4_1, wa5_1, wa6_1, wa7_1, wa8_1, wa9_1, wa10_1, wa88_12_1, wa88_15_1, wa88_16_1, wa88_17_1, wa85_7_1, wa85_8_1, wa85_9_1, wa85_13_1, wa85_14_1, wl0_1, wl1_1, wl2_1, wl3_1, wl4_1, wl5_1, wl6_1, wl7_1, wl8_1, wl9_1, wl10_1, wl11_1, wl12_1, wl13_1, wl14_1, wl15_1, wl16_1, wl17_1, wl7g85_1, wl12g85_1, wl12g88_1, wL_1]
    refine AT_call rfl rfl (equal121 hn hn2 hl) fun v M1 hd1 h1 => ?_
    obtain ⟨hv, hM⟩ := h1; subst hv; subst hM
    simp (maxSteps := 1000000) only [go_sem, Q, beq85, beq88, wa0_0, wa1_0, wa2_0, wa3_0, wa4_0, wa5_0, wa6_0, wa7_0, wa8_0, wa9_0, wa10_0, wa88_12_0, wa88_15_0, wa88_16_0, wa88_17_0, wa85_7_0, wa85_8_0, wa85_9_0, wa85_13_0, wa85_14_0, wl0_0, wl1_0, wl2_0, wl3_0, wl4_0, wl5_0, wl6_0, wl7_0, wl8_0, wl9_0, wl10_0, wl11_0, wl12_0, wl13_0, wl14_0, wl15_0, wl16_0, wl17_0, wl7g85_0, wl12g85_0, wl12g88_0, wL_0, wa0_1, wa1_1, wa2_1, wa3_1, wa4_1, wa5_1, wa6_1, wa7_1, wa8_1, wa9_1, wa10_1, wa88_12_1, wa88_15_1, wa88_16_1, wa88_17_1, wa85_7_1, wa85_8_1, wa85_9_1, wa85_13_1, wa85_14_1, wl0_1, wl1_1, wl2_1, wl3_1, wl4_1, wl5_1, wl6_1, wl7_1, wl8_1, wl9_1, wl10_1, wl11_1, wl12_1, wl13_1, wl14_1, wl15_1, wl16_1, wl17_1, wl7g85_1, wl12g85_1, wl12g88_1, wL_1]
    refine W_ret ⟨.inr rfl, _, rfl, rfl, ?_, rfl⟩
    rw [tsame_eq, ← hp1]; simp only [Q, Bool.and_true, Bool.true_and, Bool.false_and, Bool.and_false, Bool.not_true, Bool.not_false]; rfl
  · (repeat refine W_seq ?_); refine W_regionT [] ?_
    simp (maxSteps := 1000000) only [go_sem, Q, beq85, beq88, wa0_0, wa1_0, wa2_0, wa3_0, wa4_0, wa5_0, wa6_0, wa7_0, wa8_0, wa9_0, wa10_0, wa88_12_0, wa88_15_0, wa88_16_0, wa88_17_0, wa85_7_0, wa85_8_0, wa85_9_0, wa85_13_0, wa85_14_0, wl0_0, wl1_0, wl2_0, wl3_0, wl4_0, wl5_0, wl6_0, wl7_0, wl8_0, wl9_0, wl10_0, wl11_0, wl12_0, wl13_0, wl14_0, wl15_0, wl16_0, wl17_0, wl7g85_0, wl12g85_0, wl12g88_0, wL_0, wa0_1, wa1_1, wa2_1, wa3_1, wa4_1, wa5_1, wa6_1, wa7_1, wa8_1, wa9_1, wa10_1, wa88_12_1, wa88_15_1, wa88_16_1, wa88_17_1, wa85_7_1, wa85_8_1, wa85_9_1, wa85_13_1, wa85_14_1, wl0_1, wl1_1, wl2_1, wl3_1, wl4_1, wl5_1, wl6_1, wl7_1, wl8_1, wl9_1, wl10_1, wl11_1, wl12_1, wl13_1, wl14_1, wl15_1, wl16_1, wl17_1, wl7g85_1, wl12g85_1, wl12g88_1, wL_1]
    refine AT_call rfl rfl (equal121 hn hn2 hl) fun v M1 hd1 h1 => ?_
    obtain ⟨hv, hM⟩ := h1; subst hv; subst hM
    simp (maxSteps := 1000000) only [go_sem, Q, beq85, beq88, wa0_0, wa1_0, wa2_0, wa3_0, wa4_0, wa5_0, wa6_0, wa7_0, wa8_0, wa9_0, wa10_0, wa88_12_0, wa88_15_0, wa88_16_0, wa88_17_0, wa85_7_0, wa85_8_0, wa85_9_0, wa85_13_0, wa85_14_0, wl0_0, wl1_0, wl2_0, wl3_0, wl4_0, wl5_0, wl6_0, wl7_0, wl8_0, wl9_0, wl10_0, wl11_0, wl12_0, wl13_0, wl14_0, wl15_0, wl16_0, wl17_0, wl7g85_0, wl12g85_0, wl12g88_0, wL_0, wa0_1, wa1_1, wa2_1, wa3_1, wa4_1, wa5_1, wa6_1, wa7_1, wa8_1, wa9_1, wa10_1, wa88_12_1, wa88_15_1, wa88_16_1, wa88_17_1, wa85_7_1, wa85_8_1, wa85_9_1, wa85_13_1, wa85_14_1, wl0_1, wl1_1, wl2_1, wl3_1, wl4_1, wl5_1, wl6_1, wl7_1, wl8_1, wl9_1, wl10_1, wl11_1, wl12_1, wl13_1, wl14_1, wl15_1, wl16_1, wl17_1, wl7g85_1, wl12g85_1, wl12g88_1, wL_1]
    refine AT_call rfl rfl (bytes102 hd hd2) fun v M1 hd1 h1 => ?_
    obtain ⟨hv, hM⟩ := h1; subst hv; subst hM
    simp (maxSteps := 1000000) only [go_sem, Q, beq85, beq88, wa0_0, wa1_0, wa2_0, wa3_0, wa4_0, wa5_0, wa6_0, wa7_0, wa8_0, wa9_0, wa10_0, wa88_12_0, wa88_15_0, wa88_16_0, wa88_17_0, wa85_7_0, wa85_8_0, wa85_9_0, wa85_13_0, wa85_14_0, wl0_0, wl1_0, wl2_0, wl3_0, wl4_0, wl5_0, wl6_0, wl7_0, wl8_0, wl9_0, wl10_0, wl11_0, wl12_0, wl13_0, wl14_0, wl15_0, wl16_0, wl17_0, wl7g85_0, wl12g85_0, wl12g88_0, wL_0, wa0_1, wa1_1, wa2_1, wa3_1, wa4_1, wa5_1, wa6_1, wa7_1, wa8_1, wa9_1, wa10_1, wa88_12_1, wa88_15_1, wa88_16_1, wa88_17_1, wa85_7_1, wa85_8_1, wa85_9_1, wa85_13_1, wa85_14_1, wl0_1, wl1_1, wl2_1, wl3_1, wl4_1, wl5_1, wl6_1, wl7_1, wl8_1, wl9_1, wl10_1, wl11_1, wl12_1, wl13_1, wl14_1, wl15_1, wl16_1, wl17_1, wl7g85_1, wl12g85_1, wl12g88_1, wL_1]
    refine W_ret ⟨.inr rfl, _, rfl, rfl, ?_, rfl⟩
    rw [tsame_eq, ← hp1]; simp only [Q, Bool.and_true, Bool.true_and, Bool.false_and, Bool.and_false, Bool.not_true, Bool.not_false]; rfl
  · (repeat refine W_seq ?_); refine W_regionT [] ?_
    simp (maxSteps := 1000000) only [go_sem, Q, beq85, beq88, wa0_0, wa1_0, wa2_0, wa3_0, wa4_0, wa5_0, wa6_0, wa7_0, wa8_0, wa9_0, wa10_0, wa88_12_0, wa88_15_0, wa88_16_0, wa88_17_0, wa85_7_0, wa85_8_0, wa85_9_0, wa85_13_0, wa85_14_0, wl0_0, wl1_0, wl2_0, wl3_0, wl4_0, wl5_0, wl6_0, wl7_0, wl8_0, wl9_0, wl10_0, wl11_0, wl12_0, wl13_0, wl14_0, wl15_0, wl16_0, wl17_0, wl7g85_0, wl12g85_0, wl12g88_0, wL_0, wa0_1, wa1_1, wa2_1, wa3_1, wa4_1, wa5_1, wa6_1, wa7_1, wa8_1, wa9_1, wa10_1, wa88_12_1, wa88_15_1, wa88_16_1, wa88_17_1, wa85_7_1, wa85_8_1, wa85_9_1, wa85_13_1, wa85_14_1, wl0_1, wl1_1, wl2_1, wl3_1, wl4_1, wl5_1, wl6_1, wl7_1, wl8_1, wl9_1, wl10_1, wl11_1, wl12_1, wl13_1, wl14_1, wl15_1, wl16_1, wl17_1, wl7g85_1, wl12g85_1, wl12g88_1, wL_1]
    refine AT_call rfl rfl (equal121 hn hn2 hl) fun v M1 hd1 h1 => ?_
    obtain ⟨hv, hM⟩ := h1; subst hv; subst hM
    simp (maxSteps := 1000000) only [go_sem, Q, beq85, beq88, wa0_0, wa1_0, wa2_0, wa3_0, wa4_0, wa5_0, wa6_0, wa7_0, wa8_0, wa9_0, wa10_0, wa88_12_0, wa88_15_0, wa88_16_0, wa88_17_0, wa85_7_0, wa85_8_0, wa85_9_0, wa85_13_0, wa85_14_0, wl0_0, wl1_0, wl2_0, wl3_0, wl4_0, wl5_0, wl6_0, wl7_0, wl8_0, wl9_0, wl10_0, wl11_0, wl12_0, wl13_0, wl14_0, wl15_0, wl16_0, wl17_0, wl7g85_0, wl12g85_0, wl12g88_0, wL_0, wa0_1, wa1_1, wa2_1, wa3_1, wa4_1, wa5_1, wa6_1, wa7_1, wa8_1, wa9_1, wa10_1, wa88_12_1, wa88_15_1, wa88_16_1, wa88_17_1, wa85_7_1, wa85_8_1, wa85_9_1, wa85_13_1, wa85_14_1, wl0_1, wl1_1, wl2_1, wl3_1, wl4_1, wl5_1, wl6_1, wl7_1, wl8_1, wl9_1, wl10_1, wl11_1, wl12_1, wl13_1, wl14_1, wl15_1, wl16_1, wl17_1, wl7g85_1, wl12g85_1, wl12g88_1, wL_1]
    refine AT_call rfl rfl (bytes102 hd hd2) fun v M1 hd1 h1 => ?_
    obtain ⟨hv, hM⟩ := h1; subst hv; subst hM
    simp (maxSteps := 1000000) only [go_sem, Q, beq85, beq88, wa0_0, wa1_0, wa2_0, wa3_0, wa4_0, wa5_0, wa6_0, wa7_0, wa8_0, wa9_0, wa10_0, wa88_12_0, wa88_15_0, wa88_16_0, wa88_17_0, wa85_7_0, wa85_8_0, wa85_9_0, wa85_13_0, wa85_14_0, wl0_0, wl1_0, wl2_0, wl3_0, wl4_0, wl5_0, wl6_0, wl7_0, wl8_0, wl9_0, wl10_0, wl11_0, wl12_0, wl13_0, wl14_0, wl15_0, wl16_0, wl17_0, wl7g85_0, wl12g85_0, wl12g88_0, wL_0, wa0_1, wa1_1, wa2_1, wa3_1, wa4_1, wa5_1, wa6_1, wa7_1, wa8_1, wa9_1, wa10_1, wa88_12_1, wa88_15_1, wa88_16_1, wa88_17_1, wa85_7_1, wa85_8_1, wa85_9_1, wa85_13_1, wa85_14_1, wl0_1, wl1_1, wl2_1, wl3_1, wl4_1, wl5_1, wl6_1, wl7_1, wl8_1, wl9_1, wl10_1, wl11_1, wl12_1, wl13_1, wl14_1, wl15_1, wl16_1, wl17_1, wl7g85_1, wl12g85_1, wl12g88_1, wL_1]
    refine W_ret ⟨.inr rfl, _, rfl, rfl, ?_, rfl⟩
    rw [tsame_eq, ← hp1]; simp only [Q, Bool.and_true, Bool.true_and, Bool.false_and, Bool.and_false, Bool.not_true, Bool.not_false]; rfl
end
end Go.Proofs.Ytlpcbfndjffpfaa
