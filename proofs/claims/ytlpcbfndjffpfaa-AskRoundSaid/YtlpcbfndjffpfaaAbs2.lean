/- Types for the abstract machine; loads, stores and new rows. -/
import Derived.Test.YtlpcbfndjffpfaaAbs1
import Derived.Laws.StructEq
set_option linter.unusedVariables false
set_option linter.unnecessarySimpa false
set_option linter.unusedSimpArgs false
namespace Go.Abs
open Go.RowKit (Below)

inductive TD where
  | bool | int (k : IntKind) | string | pointer (e : TypeId) | slice (e : TypeId) | array (n : Nat) (e : TypeId)
  | map (k e : TypeId) | struct (fs : List (Nat × TypeId × Bool)) | func | iface | chan (e : TypeId) | other
  deriving Inhabited

structure TI where
  size : Nat
  bytes : Nat
  desc : TD
  zero : AV
  plain : Bool
  deriving Inhabited

def TI.isAgg (i : TI) : Bool := match i.desc with | .struct _ | .array _ _ => true | _ => false

def scal : Value → Option AV
  | .bool b => some (.bool b)
  | .int k n => some (.int k n)
  | .string s => some (.str s.data.toList)
  | .pointer none => some .nilptr
  | .slice none 0 0 => some .nilsl
  | .map none => some .nilmap
  | .chan none => some .nilchan
  | .nilFunc => some .nilfn
  | .nilIface => some .niliface
  | _ => none
def scals : List Value → Option (List AV)
  | [] => some []
  | v :: vs => match scal v, scals vs with | some x, some xs => some (x :: xs) | _, _ => none
def ofConst : Value → Option AV
  | .agg cs => (scals cs.toList).map .agg
  | .tuple cs => if cs.isEmpty then some .undef else none
  | v => scal v

theorem VR_scal {μ : Mu} {lim : Nat} {v : Value} {x : AV} (h : scal v = some x) : VR μ lim x v := by
  unfold scal at h
  split at h <;> first | (cases h; simp [VR]; done) | cases h
theorem VRs_scals {μ : Mu} {lim : Nat} : ∀ {vs : List Value} {xs : List AV}, scals vs = some xs → VRs μ lim xs vs
  | [], xs, h => by simp [scals] at h; subst h; exact VRs_nil
  | v :: vs, xs, h => by
    simp only [scals] at h
    split at h
    · rename_i x xs' h1 h2
      cases h
      exact VRs_cons (VR_scal h1) (VRs_scals h2)
    · cases h
theorem VR_ofConst {μ : Mu} {lim : Nat} {v : Value} {x : AV} (h : ofConst v = some x) : VR μ lim x v := by
  unfold ofConst at h
  split at h
  · simp only [Option.map_eq_some_iff] at h
    obtain ⟨xs, h1, rfl⟩ := h
    simp only [VR]; exact ⟨_, rfl, VRs_scals h1⟩
  · split at h
    · cases h; simp [VR]
    · cases h
  · exact VR_scal h

def tdOf (P : Program) : TypeDesc → TD
  | .bool => .bool
  | .int k => .int k
  | .string => .string
  | .pointer e => .pointer e
  | .slice e => .slice e
  | .array n e => .array n e
  | .map k e => .map k e
  | .struct fs => .struct (fs.toList.map fun f => (f.offset, f.type, f.name == "_"))
  | .func _ _ _ => .func
  | .interface _ => .iface
  | .chan _ e => .chan e
  | _ => .other

def ti (P : Program) (t : TypeId) : Option TI :=
  match P.info? t, P.underlying t with
  | some i, some d =>
    match i.zero.bind ofConst with
    | some z => some { size := i.size, bytes := i.bytes, desc := tdOf P d, zero := z, plain := !P.stoodInHeld t && !P.eqGuardType P.depth t }
    | none => none
  | _, _ => none

section
variable {P : Program} {t : TypeId} {i : TI}
theorem ti_parts (h : ti P t = some i) : ∃ info d z, P.info? t = some info ∧ P.underlying t = some d ∧ info.zero = some z ∧ ofConst z = some i.zero ∧ info.size = i.size ∧ info.bytes = i.bytes ∧ i.desc = tdOf P d ∧ i.plain = (!P.stoodInHeld t && !P.eqGuardType P.depth t) := by
  unfold ti at h
  split at h
  · rename_i info d h1 h2
    split at h
    · rename_i z hz
      cases h
      rw [Option.bind_eq_some_iff] at hz
      obtain ⟨z0, h3, h4⟩ := hz
      exact ⟨info, d, z0, h1, h2, h3, h4, rfl, rfl, rfl, rfl⟩
    · cases h
  · cases h
theorem ti_size (h : ti P t = some i) (w : World) : (sizeOf t).run P w = .ok i.size w := by
  obtain ⟨info, d, z, h1, _, _, _, h2, _⟩ := ti_parts h
  simp [sizeOf, typeInfo, h1, h2]
theorem ti_cellsOf (h : ti P t = some i) : P.cellsOf t = i.size := by
  obtain ⟨info, d, z, h1, _, _, _, h2, _⟩ := ti_parts h
  simp [Program.cellsOf, h1, h2]
theorem ti_info (h : ti P t = some i) (w : World) : ∃ info, (typeInfo t).run P w = .ok info w ∧ info.size = i.size ∧ info.bytes = i.bytes := by
  obtain ⟨info, d, z, h1, _, _, _, h2, h3, _⟩ := ti_parts h
  exact ⟨info, by simp [typeInfo, h1], h2, h3⟩
theorem ti_zero (h : ti P t = some i) (w : World) : ∃ z, (zeroValue t).run P w = .ok z w ∧ ∀ μ lim, VR μ lim i.zero z := by
  obtain ⟨info, d, z, h1, _, h3, h4, _⟩ := ti_parts h
  exact ⟨z, by simp [zeroValue, typeInfo, h1, h3], fun μ lim => VR_ofConst h4⟩
theorem ti_under (h : ti P t = some i) : ∃ d, P.underlying t = some d ∧ i.desc = tdOf P d := by
  obtain ⟨info, d, z, h1, h2, _, _, _, _, h3, _⟩ := ti_parts h
  exact ⟨d, h2, h3⟩
theorem ti_isAgg (h : ti P t = some i) (w : World) : (isAgg t).run P w = .ok i.isAgg w := by
  obtain ⟨d, h1, h2⟩ := ti_under h
  simp only [isAgg, Sem.run_bind, run_underlying h1, Result.andThen_ok]
  cases d <;> simp [TI.isAgg, h2, tdOf]
end
end Go.Abs
