/- Operations on values, and on slices that are read or cut. -/
import Derived.Test.YtlpcbfndjffpfaaAbs4
set_option linter.unusedVariables false
set_option linter.unnecessarySimpa false
set_option linter.unusedSimpArgs false
namespace Go.Abs
open Go.RowKit (Below)

def binA (P : Program) (op : BinOp) (t : TypeId) (x y : AV) : Option AV :=
  match x, y with
  | .int k a, .int k' b => if op = .shl ∨ op = .shr ∨ k = k' then intA op k a b else none
  | .str a, .str b => strA op a b
  | x, y =>
    match op with
    | .eql => (eqA P 8 t x y).map .bool
    | .neq => (eqA P 8 t x y).map fun b => .bool !b
    | _ => none

/-- May an equality be asked? (Two nil values of an interface type: one of them must be the literal.) -/
def guardA (P : Program) (op : BinOp) (t : TypeId) (cx cy : Bool) (x y : AV) : Bool :=
  match x, y with
  | .niliface, .niliface => cx || cy
  | .agg _, .agg _ => match ti P t with | some i => i.plain | none => false
  | _, _ => true

def isConst : Operand → Bool | .const _ => true | _ => false

theorem VR_undef_shape {μ : Mu} {lim : Nat} {x : AV} {cx : Value} (h : VR μ lim x cx) (hx : x ≠ .undef) : True := trivial

theorem bin_int {P : Program} {op : BinOp} {t : TypeId} {k k' : IntKind} {a b : Int} {v : AV} (w : World) (hk : op = .shl ∨ op = .shr ∨ k = k') (h : intA op k a b = some v) :
    ∃ cv, (binOp op t (.int k a) (.int k' b)).run P w = .ok cv w ∧ ∀ μ lim, VR μ lim v cv := by
  cases op
  case shl =>
    simp only [intA] at h
    split at h
    · cases h
    · rename_i hn
      cases h
      refine ⟨.int k (k.wrap (a * 2 ^ (min b.toNat k.bits))), ?_, fun μ lim => by simp [VR]⟩
      simp [binOp, Op.shift, hn]
  case shr =>
    simp only [intA] at h
    split at h
    · cases h
    · rename_i hn
      cases h
      refine ⟨.int k (a.fdiv (2 ^ (min b.toNat k.bits))), ?_, fun μ lim => by simp [VR]⟩
      simp [binOp, Op.shift, hn]
  case quo =>
    have hk' : k = k' := by simpa using hk
    subst hk'
    simp only [intA] at h
    split at h
    · cases h
    · rename_i hn
      cases h
      exact ⟨_, by simp [binOp, Op.intDiv, hn]; rfl, fun μ lim => by simp [VR]⟩
  case rem =>
    have hk' : k = k' := by simpa using hk
    subst hk'
    simp only [intA] at h
    split at h
    · cases h
    · rename_i hn
      cases h
      exact ⟨_, by simp [binOp, Op.intDiv, hn]; rfl, fun μ lim => by simp [VR]⟩
  all_goals
    have hk' : k = k' := by simpa using hk
    subst hk'
    simp only [intA, Option.some.injEq] at h
    subst h
    exact ⟨_, by simp [binOp, Op.intArith, Op.intBits, Op.intCmp]; rfl, fun μ lim => by simp [VR]⟩

theorem bin_str {P : Program} {op : BinOp} {t : TypeId} {a b : List UInt8} {v : AV} (w : World) (h : strA op a b = some v) :
    ∃ cv, (binOp op t (.string ⟨⟨a⟩⟩) (.string ⟨⟨b⟩⟩)).run P w = .ok cv w ∧ ∀ μ lim, VR μ lim v cv := by
  cases op <;> simp only [strA, Option.some.injEq, reduceCtorEq] at h
  case add =>
    split at h
    · rename_i hn
      cases h
      refine ⟨.string ⟨⟨a ++ b⟩⟩, ?_, fun μ lim => by simp [VR]⟩
      have hm : ¬ (((⟨⟨a⟩⟩ : ByteArray).size + (⟨⟨b⟩⟩ : ByteArray).size : Nat) : Int) > IntKind.i64.max := by
        rw [size_mk, size_mk, show IntKind.i64.max = 9223372036854775807 from by decide]; omega
      simp only [binOp, Op.stringOp]
      rw [if_neg hm]
      simp [append_mk]
    · cases h
  all_goals
    subst h
    exact ⟨_, by simp [binOp, Op.stringOp, toList_mk]; rfl, fun μ lim => by simp [VR]⟩

theorem bin_eq {P : Program} {μ : Mu} {lim : Nat} {t : TypeId} {x y : AV} {cx cy : Value} {b : Bool} (w : World) (hx : VR μ lim x cx) (hy : VR μ lim y cy) (h : eqA P 8 t x y = some b) : (Op.equal t cx cy).run P w = .ok b w :=
  (eqA_ok (P := P) (μ := μ) (lim := lim) (k := 9992) 9 8 (by omega)).1 t x y cx cy b w hx hy h

/-- 'x == y', 'x != y' where the operands are no numbers and no strings. -/
theorem binOp_eql {P : Program} {t : TypeId} {cx cy : Value} (w : World) (hi : ∀ k n, cx ≠ .int k n) (hs : ∀ s, cx ≠ .string s) (hf : ∀ k n, cx ≠ .float k n) (hc : ∀ k a b, cx ≠ .complex k a b) :
    (binOp .eql t cx cy).run P w = ((Op.equal t cx cy).run P w).andThen fun b w' => .ok (.bool b) w' := by
  cases cx <;> first
    | exact absurd rfl (hi _ _)
    | exact absurd rfl (hs _)
    | exact absurd rfl (hf _ _)
    | exact absurd rfl (hc _ _ _)
    | simp [binOp]
theorem binOp_neq {P : Program} {t : TypeId} {cx cy : Value} (w : World) (hi : ∀ k n, cx ≠ .int k n) (hs : ∀ s, cx ≠ .string s) (hf : ∀ k n, cx ≠ .float k n) (hc : ∀ k a b, cx ≠ .complex k a b) :
    (binOp .neq t cx cy).run P w = ((Op.equal t cx cy).run P w).andThen fun b w' => .ok (.bool (!b)) w' := by
  cases cx <;> first
    | exact absurd rfl (hi _ _)
    | exact absurd rfl (hs _)
    | exact absurd rfl (hf _ _)
    | exact absurd rfl (hc _ _ _)
    | simp [binOp]

/-- What a value that eqA speaks of is not. -/
theorem eqA_shape {P : Program} {μ : Mu} {lim : Nat} {d : Nat} {t : TypeId} {x y : AV} {cx : Value} {b : Bool} (hx : VR μ lim x cx) (h : eqA P d t x y = some b) (h1 : ∀ k a k' c, ¬ (x = .int k a ∧ y = .int k' c)) (h2 : ∀ a c, ¬ (x = .str a ∧ y = .str c)) :
    (∀ k n, cx ≠ .int k n) ∧ (∀ s, cx ≠ .string s) ∧ (∀ k n, cx ≠ .float k n) ∧ (∀ k a b, cx ≠ .complex k a b) := by
  cases d with
  | zero => simp [eqA] at h
  | succ d =>
    unfold eqA at h
    split at h
    · cases h
    · split at h
      all_goals first
        | cases h; done
        | exact absurd ⟨rfl, rfl⟩ (h1 _ _ _ _)
        | exact absurd ⟨rfl, rfl⟩ (h2 _ _)
        | skip
      all_goals simp only [VR] at hx
      all_goals first
        | (subst hx; refine ⟨?_, ?_, ?_, ?_⟩ <;> simp; done)
        | (obtain ⟨_, _, _, _, _, rfl⟩ := hx; refine ⟨?_, ?_, ?_, ?_⟩ <;> simp; done)
        | (obtain ⟨_, _, _, _, rfl, _⟩ := hx; refine ⟨?_, ?_, ?_, ?_⟩ <;> simp; done)
        | (obtain ⟨_, _, _, _, _, rfl, _⟩ := hx; refine ⟨?_, ?_, ?_, ?_⟩ <;> simp; done)
        | (obtain ⟨_, _, rfl⟩ := hx; refine ⟨?_, ?_, ?_, ?_⟩ <;> simp; done)
        | (obtain ⟨_, _, rfl, _⟩ := hx; refine ⟨?_, ?_, ?_, ?_⟩ <;> simp; done)
        | (obtain ⟨_, rfl, _⟩ := hx; refine ⟨?_, ?_, ?_, ?_⟩ <;> simp; done)

theorem binA_ok {P : Program} {μ : Mu} {lim : Nat} {op : BinOp} {t : TypeId} {x y v : AV} {cx cy : Value} (w : World) (hx : VR μ lim x cx) (hy : VR μ lim y cy) (h : binA P op t x y = some v) :
    ∃ cv, (binOp op t cx cy).run P w = .ok cv w ∧ VR μ lim v cv := by
  unfold binA at h
  split at h
  · split at h
    · rename_i hk
      simp only [VR] at hx hy
      subst hx; subst hy
      obtain ⟨cv, h1, h2⟩ := bin_int (P := P) (t := t) w hk h
      exact ⟨cv, h1, h2 _ _⟩
    · cases h
  · simp only [VR] at hx hy
    subst hx; subst hy
    obtain ⟨cv, h1, h2⟩ := bin_str (P := P) (t := t) w h
    exact ⟨cv, h1, h2 _ _⟩
  · rename_i n1 n2
    split at h
    · rw [Option.map_eq_some_iff] at h
      obtain ⟨b, hb, rfl⟩ := h
      obtain ⟨s1, s2, s3, s4⟩ := eqA_shape hx hb (fun k a k' c ⟨e1, e2⟩ => n1 _ _ _ _ e1 e2) (fun a c ⟨e1, e2⟩ => n2 _ _ e1 e2)
      refine ⟨.bool b, ?_, by simp [VR]⟩
      rw [binOp_eql w s1 s2 s3 s4, bin_eq w hx hy hb]; rfl
    · rw [Option.map_eq_some_iff] at h
      obtain ⟨b, hb, rfl⟩ := h
      obtain ⟨s1, s2, s3, s4⟩ := eqA_shape hx hb (fun k a k' c ⟨e1, e2⟩ => n1 _ _ _ _ e1 e2) (fun a c ⟨e1, e2⟩ => n2 _ _ e1 e2)
      refine ⟨.bool (!b), ?_, by simp [VR]⟩
      rw [binOp_neq w s1 s2 s3 s4, bin_eq w hx hy hb]; rfl
    · cases h

theorem VR_nilIface {μ : Mu} {lim : Nat} {x : AV} (h : VR μ lim x .nilIface) (hu : x ≠ .undef) : x = .niliface := by
  cases x <;> simp [VR] at h hu ⊢
theorem VR_agg {μ : Mu} {lim : Nat} {x : AV} {a : Array Value} (h : VR μ lim x (.agg a)) (hu : x ≠ .undef) : ∃ cs, x = .agg cs := by
  cases x <;> simp [VR] at h hu ⊢
def eqlike : BinOp → Bool | .eql | .neq => true | _ => false
theorem eqGuard_unlike {P : Program} {op : BinOp} {t : TypeId} {ox oy : Operand} {cx cy : Value} (w : World) (h : eqlike op = false) : (eqGuard op t ox oy cx cy).run P w = .ok () w := by
  cases op <;> first | (simp [eqlike] at h; done) | simp [eqGuard]
theorem guardA_ok {P : Program} {μ : Mu} {lim : Nat} {op : BinOp} {t : TypeId} {x y : AV} {ox oy : Operand} {cx cy : Value} (w : World) (hx : VR μ lim x cx) (hy : VR μ lim y cy) (hux : x ≠ .undef) (huy : y ≠ .undef)
    (h : guardA P op t (isConst ox) (isConst oy) x y = true) : (eqGuard op t ox oy cx cy).run P w = .ok () w := by
  have hn : ∀ {op : BinOp} (he : op = .eql ∨ op = .neq), cx = .nilIface → cy = .nilIface → (eqGuard op t ox oy cx cy).run P w = .ok () w := by
    intro op he h1 h2
    subst h1; subst h2
    have e1 := VR_nilIface hx hux
    have e2 := VR_nilIface hy huy
    subst e1; subst e2
    simp only [guardA, Bool.or_eq_true] at h
    rcases he with rfl | rfl <;> rcases h with h | h <;> cases ox <;> cases oy <;> simp [isConst] at h <;> simp [eqGuard]
  have ha : ∀ {op : BinOp} (he : op = .eql ∨ op = .neq) (a b : Array Value), cx = .agg a → cy = .agg b → (eqGuard op t ox oy cx cy).run P w = .ok () w := by
    intro op he a b h1 h2
    subst h1; subst h2
    obtain ⟨e1, rfl⟩ := VR_agg hx hux
    obtain ⟨e2, rfl⟩ := VR_agg hy huy
    simp only [guardA] at h
    split at h
    · rename_i i hi
      obtain ⟨_, _, _, _, _, _, _, _, _, _, hp⟩ := ti_parts hi
      rw [h] at hp
      have hg : P.eqGuardType P.depth t = false := by
        cases hh : P.eqGuardType P.depth t with
        | false => rfl
        | true => rw [hh] at hp; simp at hp
      exact run_eqGuard_agg w op t ox oy a b hg
    · cases h
  cases he : eqlike op with
  | false => exact eqGuard_unlike w he
  | true =>
    have he' : op = .eql ∨ op = .neq := by cases op <;> simp [eqlike] at he ⊢
    by_cases h1 : cx = .nilIface ∧ cy = .nilIface
    · exact hn he' h1.1 h1.2
    · by_cases h2 : (∃ a, cx = .agg a) ∧ (∃ b, cy = .agg b)
      · obtain ⟨⟨a, h3⟩, ⟨b, h4⟩⟩ := h2
        exact ha he' a b h3 h4
      · have key : ∀ op : BinOp, op = .eql ∨ op = .neq → (eqGuard op t ox oy cx cy).run P w = .ok () w := by
          intro op ho
          rcases ho with rfl | rfl <;> (simp only [eqGuard]; simp; split <;> first | (exfalso; exact h1 ⟨rfl, rfl⟩) | (exfalso; exact h2 ⟨⟨_, rfl⟩, ⟨_, rfl⟩⟩) | rfl)
        exact key op he'

def unA (op : UnOp) (x : AV) : Option AV :=
  match op, x with
  | .neg, .int k n => some (.int k (k.wrap (0 - n)))
  | .xor, .int k n => some (.int k (k.wrap (BitVec.ofInt k.bits (if k.signed = true then -1 else k.max) ^^^ BitVec.ofInt k.bits n).toNat))
  | .not, .bool b => some (.bool (!b))
  | _, _ => none
theorem unA_ok {P : Program} {μ : Mu} {lim : Nat} {op : UnOp} {x v : AV} {cx : Value} (w : World) (hx : VR μ lim x cx) (h : unA op x = some v) : ∃ cv, (Op.unary op cx).run P w = .ok cv w ∧ VR μ lim v cv := by
  unfold unA at h
  split at h <;> first | cases h; done | skip
  all_goals
    simp only [VR] at hx
    subst hx
    cases h
    exact ⟨_, by simp [Op.unary, Op.intArith, Op.intBits]; rfl, by simp [VR]⟩

/-- Bytes as cells, and back. -/
def bytesA (l : List UInt8) : List AV := l.map fun b => .int .u8 b.toNat
def textA : List AV → Option (List UInt8)
  | [] => some []
  | .int .u8 n :: xs => (textA xs).map (UInt8.ofNat n.toNat :: ·)
  | _ => none
theorem textA_bytesA (l : List UInt8) : textA (bytesA l) = some l := by
  induction l with
  | nil => rfl
  | cons b l ih =>
    show (textA (bytesA l)).map _ = _
    rw [ih]; simp
theorem bytesA_st (l : List UInt8) : (bytesA l).all AV.st = true := by simp [bytesA, AV.st, AV.lev0]
theorem bytesA_length (l : List UInt8) : (bytesA l).length = l.length := by simp [bytesA]
theorem VRs_bytesA {μ : Mu} {lim : Nat} (l : List UInt8) : VRs μ lim (bytesA l) (l.map fun b => .int .u8 b.toNat) := by
  induction l with
  | nil => exact VRs_nil
  | cons b l ih => exact VRs_cons (by simp [VR]) ih

/-- The cells of a slice. -/
def sliceCells (M : Mem) (x : AV) : Option (List AV × Nat) :=
  match x with
  | .nilsl => some ([], 0)
  | .sl a n _ =>
    if n = 0 then some ([], 0) else
    match getRow M a with
    | some r => some ((r.cs.drop a.off).take (n * r.es), n)
    | none => none
  | _ => none

theorem slice_cells_at {base : Nat} {μ : Mu} {M : Mem} {w : World} {a : AA} {r : Row} {arr : Arr} {n : Nat} (h : R base μ M w) (hr : getRow M a = some r) (ha : arr ∈ μ a.lv a.ix) (hlo : arr.lo ≤ a.off) (hlen : a.off + n * arr.es ≤ arr.len) :
    arr.es = r.es ∧ ∃ vs : List Value, vs.length = n * r.es ∧ VRs μ 0 ((r.cs.drop a.off).take (n * r.es)) vs ∧ ∀ (j : Nat) (v : Value), vs[j]? = some v → w.cell? ⟨arr.blk, arr.sh + (a.off - arr.lo) + j, none⟩ = some v := by
  have hrow : RowOK base μ w r (μ a.lv a.ix) := h.block _ _ _ (getRow_get hr)
  have he := (hrow.each arr ha).1
  refine ⟨he, cells_at hrow ha hlo (by rw [← he]; exact hlen)⟩

/-- Reading all cells of a slice: 'firstCells'. -/
theorem firstCells_ok {P : Program} {base : Nat} {μ : Mu} {M : Mem} {w : World} {x : AV} {cx : Value} {d n size : Nat} {ys : List AV} (h : R base μ M w) (hx : VR μ d x cx) (hs : sliceCells M x = some (ys, n))
    (hes : ∀ a r m c, x = .sl a m c → getRow M a = some r → r.es = size) :
    ∃ vs : List Value, (Builtin.lenOf cx).run P w = .ok n w ∧ (Builtin.firstCells size n cx).run P w = .ok vs.toArray w ∧ VRs μ 0 ys vs ∧ (Builtin.firstCells 1 (n * size) cx).run P w = .ok vs.toArray w := by
  unfold sliceCells at hs
  split at hs
  · cases hs
    simp only [VR] at hx; subst hx
    exact ⟨[], by simp [Builtin.lenOf], by simp [Builtin.firstCells], VRs_nil, by simp [Builtin.firstCells]⟩
  · rename_i a m c
    simp only [VR] at hx
    obtain ⟨_, blk, o, sp, cap, rfl, hn, hc, hx⟩ := hx
    split at hs
    · rename_i hm
      cases hs
      subst hm
      exact ⟨[], by simp [Builtin.lenOf], by simp [Builtin.firstCells, loadCells, loadCellsFrom], VRs_nil, by simp [Builtin.firstCells, loadCells, loadCellsFrom]⟩
    · rename_i hm
      split at hs
      · rename_i r hr
        cases hs
        rcases hx with ⟨h1, _⟩ | ⟨rfl, arr, ha, rfl, hlo, rfl, hlen, _⟩
        · exact absurd h1 hm
        · obtain ⟨he, vs, v1, v2, v3⟩ := slice_cells_at h hr ha hlo hlen
          have hsz := hes _ _ _ _ rfl hr
          subst hsz
          have hl := run_loadCells_list (P := P) w ⟨arr.blk, arr.sh + (a.off - arr.lo), none⟩ vs (fun j v hj => by rw [Addr_add]; exact v3 j v hj)
          rw [v1] at hl
          exact ⟨vs, by simp [Builtin.lenOf], by simp [Builtin.firstCells, hl], v2, by simp [Builtin.firstCells, hl]⟩
      · cases hs
  · cases hs

end Go.Abs
