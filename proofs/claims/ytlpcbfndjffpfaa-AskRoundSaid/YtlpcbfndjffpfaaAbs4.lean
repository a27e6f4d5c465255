/- Operations on values: arithmetic, comparisons, parts of structs. -/
import Derived.Test.YtlpcbfndjffpfaaAbs3
set_option linter.unusedVariables false
set_option linter.unnecessarySimpa false
set_option linter.unusedSimpArgs false
namespace Go.Abs
open Go.RowKit (Below)

def intA (op : BinOp) (k : IntKind) (a b : Int) : Option AV :=
  match op with
  | .add => some (.int k (k.wrap (a + b)))
  | .sub => some (.int k (k.wrap (a - b)))
  | .mul => some (.int k (k.wrap (a * b)))
  | .quo => if b = 0 then none else some (.int k (k.wrap (a.tdiv b)))
  | .rem => if b = 0 then none else some (.int k (a.tmod b))
  | .and => some (.int k (k.wrap (BitVec.ofInt k.bits a &&& BitVec.ofInt k.bits b).toNat))
  | .or => some (.int k (k.wrap (BitVec.ofInt k.bits a ||| BitVec.ofInt k.bits b).toNat))
  | .xor => some (.int k (k.wrap (BitVec.ofInt k.bits a ^^^ BitVec.ofInt k.bits b).toNat))
  | .andNot => some (.int k (k.wrap (BitVec.ofInt k.bits a &&& ~~~(BitVec.ofInt k.bits b)).toNat))
  | .shl => if b < 0 then none else some (.int k (k.wrap (a * 2 ^ (min b.toNat k.bits))))
  | .shr => if b < 0 then none else some (.int k (a.fdiv (2 ^ (min b.toNat k.bits))))
  | .eql => some (.bool (a == b))
  | .neq => some (.bool (a != b))
  | .lss => some (.bool (decide (a < b)))
  | .leq => some (.bool (decide (a ≤ b)))
  | .gtr => some (.bool (decide (b < a)))
  | .geq => some (.bool (decide (b ≤ a)))

def strA (op : BinOp) (a b : List UInt8) : Option AV :=
  match op with
  | .add => if a.length + b.length < 9223372036854775808 then some (.str (a ++ b)) else none
  | .eql => some (.bool (a == b))
  | .neq => some (.bool (!(a == b)))
  | .lss => some (.bool (Op.bytesLess a b))
  | .leq => some (.bool (Op.bytesLess a b || a == b))
  | .gtr => some (.bool (!(Op.bytesLess a b || a == b)))
  | .geq => some (.bool (!Op.bytesLess a b))
  | _ => none

theorem toList_mk (l : List UInt8) : (⟨⟨l⟩⟩ : ByteArray).toList = l := by rw [ByteArray.toList_eq]
theorem size_mk (l : List UInt8) : (⟨⟨l⟩⟩ : ByteArray).size = l.length := rfl
theorem append_mk (a b : List UInt8) : (⟨⟨a⟩⟩ ++ ⟨⟨b⟩⟩ : ByteArray) = ⟨⟨a ++ b⟩⟩ := by
  apply ByteArray.ext
  rw [ByteArray.data_append]
  simp

def partA (P : Program) (t : TypeId) (cs : List AV) (off : Nat) : Option AV :=
  match ti P t with
  | some i => if i.isAgg = true then (if off + i.size ≤ cs.length then some (.agg ((cs.drop off).take i.size)) else none) else cs[off]?
  | none => none

theorem partA_ok {P : Program} {μ : Mu} {lim : Nat} {t : TypeId} {cs : List AV} {off : Nat} {v : AV} {c : Array Value} (hv : VRs μ lim cs c.toList) (h : partA P t cs off = some v) (w : World) :
    ∃ cv, (part t c off).run P w = .ok cv w ∧ VR μ lim v cv := by
  unfold partA at h
  split at h
  · rename_i i hi
    split at h
    · rename_i hagg
      split at h
      · rename_i hin
        cases h
        refine ⟨.agg (c.extract off (off + i.size)), by simp [part, ti_isAgg hi, hagg, ti_size hi], ?_⟩
        simp only [VR]
        refine ⟨_, rfl, ?_⟩
        rw [Array.toList_extract]
        have := VRs_take i.size (VRs_drop off hv)
        simpa [List.extract_eq_take_drop] using this
      · cases h
    · rename_i hagg
      have hagg' : i.isAgg = false := by simpa using hagg
      obtain ⟨cv, h1, h2⟩ := VRs_get off hv h
      refine ⟨cv, ?_, h2⟩
      have : c[off]? = some cv := by simpa using h1
      simp [part, ti_isAgg hi, hagg', this]
  · cases h

mutual
def eqA (P : Program) : Nat → TypeId → AV → AV → Option Bool
  | 0, _, _, _ => none
  | d + 1, t, x, y =>
    match ti P t with
    | none => none
    | some i =>
      match i.desc, x, y with
      | .bool, .bool a, .bool b => some (a == b)
      | .int _, .int k a, .int k' b => if k = k' then some (a == b) else none
      | .string, .str a, .str b => some (a == b)
      | .pointer _, .nilptr, .nilptr => some true
      | .pointer _, .nilptr, .ptr _ => some false
      | .pointer _, .ptr _, .nilptr => some false
      | .slice _, .nilsl, .nilsl => some true
      | .slice _, .nilsl, .sl _ _ _ => some false
      | .slice _, .sl _ _ _, .nilsl => some false
      | .map _ _, .nilmap, .nilmap => some true
      | .map _ _, .nilmap, .map _ => some false
      | .map _ _, .map _, .nilmap => some false
      | .func, .nilfn, .nilfn => some true
      | .func, .nilfn, .fn _ _ _ => some false
      | .func, .fn _ _ _, .nilfn => some false
      | .iface, .niliface, .niliface => some true
      | .iface, .niliface, .iface _ _ => some false
      | .iface, .iface _ _, .niliface => some false
      | .struct fs, .agg xs, .agg ys => if i.plain = true then eqFieldsA P d fs xs ys else none
      | _, _, _ => none
def eqFieldsA (P : Program) : Nat → List (Nat × TypeId × Bool) → List AV → List AV → Option Bool
  | _, [], _, _ => some true
  | d, (off, t, blank) :: fs, xs, ys =>
    if blank = true then eqFieldsA P d fs xs ys else
    match partA P t xs off, partA P t ys off with
    | some a, some b =>
      match eqA P d t a b with
      | some true => eqFieldsA P d fs xs ys
      | some false => some false
      | none => none
    | _, _ => none
end

theorem ti_struct {P : Program} {t : TypeId} {i : TI} {fs : List (Nat × TypeId × Bool)} (h : ti P t = some i) (hd : i.desc = .struct fs) :
    P.underlying t = some (.struct (P.fieldsOf t)) ∧ fs = (P.fieldsOf t).toList.map fun f => (f.offset, f.type, f.name == "_") := by
  obtain ⟨d, h1, h2⟩ := ti_under h
  rw [hd] at h2
  cases d <;> simp [tdOf] at h2
  subst h2
  simp [Program.fieldsOf, h1]

theorem eqA_ok {P : Program} {μ : Mu} {lim k : Nat} (n : Nat) : ∀ (d : Nat), d < n →
    (∀ (t : TypeId) (x y : AV) (cx cy : Value) (b : Bool) (w : World), VR μ lim x cx → VR μ lim y cy → eqA P d t x y = some b → (Op.equalIn (d + k) t cx cy).run P w = .ok b w) ∧
    (∀ (fs : List Field) (xs ys : List AV) (c c' : Array Value) (b : Bool) (w : World), VRs μ lim xs c.toList → VRs μ lim ys c'.toList →
      eqFieldsA P d (fs.map fun f => (f.offset, f.type, f.name == "_")) xs ys = some b → (Op.eqFields (d + k) c c' fs).run P w = .ok b w) := by
  induction n with
  | zero => intro d hd; omega
  | succ n ih =>
    intro d hd
    have first : ∀ (t : TypeId) (x y : AV) (cx cy : Value) (b : Bool) (w : World), VR μ lim x cx → VR μ lim y cy → eqA P d t x y = some b → (Op.equalIn (d + k) t cx cy).run P w = .ok b w := by
      intro t x y cx cy b w hx hy h
      cases d with
      | zero => simp [eqA] at h
      | succ d =>
        have ih' := (ih d (by omega)).2
        rw [show d + 1 + k = d + k + 1 by omega]
        unfold eqA at h
        split at h
        · cases h
        · rename_i i hi
          obtain ⟨ds, hu, hdesc⟩ := ti_under hi
          split at h
          all_goals first
            | cases h; done
            | skip
          case h_19 =>
            rename_i fs xs ys hdd
            split at h
            · rename_i hpl
              simp only [VR] at hx hy
              obtain ⟨c, rfl, hc⟩ := hx
              obtain ⟨c', rfl, hc'⟩ := hy
              obtain ⟨hs1, hs2⟩ := ti_struct hi hdd
              obtain ⟨_, _, _, _, _, _, _, _, _, _, hplain⟩ := ti_parts hi
              rw [hpl] at hplain
              have hst : P.stoodInHeld t = false := by
                cases hh : P.stoodInHeld t with
                | false => rfl
                | true => rw [hh] at hplain; simp at hplain
              rw [run_equalIn_struct w (d + k) t c c' hs1 hst]
              subst hs2
              exact ih' _ _ _ _ _ _ w hc hc' h
            · cases h
          all_goals
            rename_i hdd
            rw [hdd] at hdesc
            cases ds <;> simp [tdOf] at hdesc
            simp only [VR] at hx hy
          all_goals first
            | (subst hx; subst hy; simp at h; subst h; simp [Op.equalIn, run_underlying hu, beq_toListBytes, toList_mk]; done)
            | (subst hx; subst hy; split at h <;> simp at h; subst h; simp [Op.equalIn, run_underlying hu, *]; done)
            | (subst hx; obtain ⟨_, _, _, _, _, rfl⟩ := hy; simp at h; subst h; simp [Op.equalIn, run_underlying hu]; done)
            | (subst hy; obtain ⟨_, _, _, _, _, rfl⟩ := hx; simp at h; subst h; simp [Op.equalIn, run_underlying hu]; done)
            | (subst hx; obtain ⟨_, _, _, _, rfl, _⟩ := hy; simp at h; subst h; simp [Op.equalIn, run_underlying hu]; done)
            | (subst hx; obtain ⟨_, _, _, _, _, rfl, _⟩ := hy; simp at h; subst h; simp [Op.equalIn, run_underlying hu]; done)
            | (subst hy; obtain ⟨_, _, _, _, rfl, _⟩ := hx; simp at h; subst h; simp [Op.equalIn, run_underlying hu]; done)
            | (subst hy; obtain ⟨_, _, _, _, _, rfl, _⟩ := hx; simp at h; subst h; simp [Op.equalIn, run_underlying hu]; done)
            | (subst hx; obtain ⟨_, _, rfl⟩ := hy; simp at h; subst h; simp [Op.equalIn, run_underlying hu]; done)
            | (subst hy; obtain ⟨_, _, rfl⟩ := hx; simp at h; subst h; simp [Op.equalIn, run_underlying hu]; done)
            | (subst hx; obtain ⟨_, _, rfl, _⟩ := hy; simp at h; subst h; simp [Op.equalIn, run_underlying hu]; done)
            | (subst hy; obtain ⟨_, _, rfl, _⟩ := hx; simp at h; subst h; simp [Op.equalIn, run_underlying hu]; done)
            | (subst hx; obtain ⟨_, rfl, _⟩ := hy; simp at h; subst h; simp [Op.equalIn, run_underlying hu]; done)
            | (subst hy; obtain ⟨_, rfl, _⟩ := hx; simp at h; subst h; simp [Op.equalIn, run_underlying hu]; done)
    refine ⟨first, fun fs => ?_⟩
    induction fs with
    | nil => intro xs ys c c' b w hx hy h; simp [eqFieldsA] at h; subst h; simp [Op.eqFields]
    | cons f fs ihf =>
      intro xs ys c c' b w hx hy h
      simp only [List.map_cons, eqFieldsA] at h
      simp only [Op.eqFields]
      split at h
      · rename_i hb
        have hb' : f.name = "_" := by simpa using hb
        rw [if_neg (by simpa using hb')]
        exact ihf _ _ _ _ _ w hx hy h
      · rename_i hb
        have hb' : f.name ≠ "_" := by simpa using hb
        rw [if_pos hb']
        split at h
        · rename_i a b' ha hb2
          obtain ⟨ca, p1, p2⟩ := partA_ok hx ha w
          obtain ⟨cb, q1, q2⟩ := partA_ok hy hb2 w
          split at h
          · rename_i he
            have := first _ _ _ _ _ _ w p2 q2 he
            simp [p1, q1, this]
            exact ihf _ _ _ _ _ w hx hy h
          · rename_i he
            have := first _ _ _ _ _ _ w p2 q2 he
            cases h
            simp [p1, q1, this]
          · cases h
        · cases h

end Go.Abs
