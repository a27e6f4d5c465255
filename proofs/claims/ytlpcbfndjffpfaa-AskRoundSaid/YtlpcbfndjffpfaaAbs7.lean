/- Addresses of parts, parts of values, conversions, new variables. -/
import Derived.Test.YtlpcbfndjffpfaaAbs6
set_option linter.unusedVariables false
set_option linter.unnecessarySimpa false
set_option linter.unusedSimpArgs false
namespace Go.Abs
open Go.RowKit (Below)

def fieldAddrA (P : Program) (t : TypeId) (x : AV) (f : Nat) (M : Mem) : Option AV :=
  match ti P t, x with
  | some i, .ptr a =>
    match i.desc, getRow M a with
    | .struct fs, some r =>
      match fs[f]? with
      | some (off, ft, _) =>
        match ti P ft with
        | some j => if 0 < j.size ∧ a.off % r.es + off < r.es then some (.ptr { a with off := a.off + off }) else none
        | none => none
      | none => none
    | _, _ => none
  | _, _ => none

theorem fieldAddrA_ok {P : Program} {base : Nat} {μ : Mu} {M : Mem} {w : World} {d : Nat} {t : TypeId} {x v : AV} {f : Nat} {cx : Value} (h : R base μ M w) (hx : VR μ d x cx) (hs : fieldAddrA P t x f M = some v) :
    ∃ cv, (Instr.fieldAt t cx f).run P w = .ok cv w ∧ VR μ d v cv := by
  unfold fieldAddrA at hs
  split at hs
  · rename_i i a hi
    split at hs
    · rename_i fs r hd hr
      split at hs
      · rename_i off ft bl hf
        split at hs
        · rename_i j hj
          split at hs
          · rename_i hc
            cases hs
            obtain ⟨hu, hfs⟩ := ti_struct hi hd
            subst hfs
            simp only [List.getElem?_map, Option.map_eq_some_iff] at hf
            obtain ⟨fd, hfd, he⟩ := hf
            simp only [Prod.mk.injEq] at he
            obtain ⟨rfl, rfl, _⟩ := he
            have hfd' : (P.fieldsOf t)[f]? = some fd := by simpa using hfd
            have hrow : RowOK base μ w r (μ a.lv a.ix) := h.block _ _ _ (getRow_get hr)
            simp only [VR] at hx
            obtain ⟨h0, arr, ha, hlo, hlt, rfl⟩ := hx
            have hw := within hrow ha hlo hlt (show a.off % r.es + (fd.offset + 1) ≤ r.es by omega)
            refine ⟨.pointer (some ⟨arr.blk, arr.sh + (a.off - arr.lo) + fd.offset, none⟩), ?_, ?_⟩
            · have hne : j.size ≠ 0 := by omega
              simp [Instr.fieldAt, run_underlying hu, hfd', Instr.sureAddr, fieldPlace, ti_size hj, hne, Addr_add]
            · simp only [VR]
              exact ⟨h0, arr, ha, by omega, by omega, by congr 3; omega⟩
          · cases hs
        · cases hs
      · cases hs
    · cases hs
  · cases hs

def indexAddrA (P : Program) (t : TypeId) (x ix : AV) (M : Mem) : Option AV :=
  match ti P t, x, ix with
  | some i, .sl a n _, .int _ k =>
    match i.desc, getRow M a with
    | .slice e, some r =>
      match ti P e with
      | some j => if 0 ≤ k ∧ k < n ∧ 0 < j.size ∧ r.es = j.size then some (.ptr { a with off := a.off + k.toNat * j.size }) else none
      | none => none
    | _, _ => none
  | some i, .ptr a, .int _ k =>
    match i.desc, getRow M a with
    | .array n e, some r =>
      match ti P e with
      | some j => if 0 ≤ k ∧ k < n ∧ a.off % r.es + k.toNat * j.size < r.es then some (.ptr { a with off := a.off + k.toNat * j.size }) else none
      | none => none
    | _, _ => none
  | _, _, _ => none

theorem indexAddrA_ok {P : Program} {base : Nat} {μ : Mu} {M : Mem} {w : World} {d : Nat} {t : TypeId} {x ix v : AV} {cx cix : Value} (h : R base μ M w) (hx : VR μ d x cx) (hix : VR μ d ix cix) (hs : indexAddrA P t x ix M = some v) :
    ∃ cv, (Instr.indexAt t cx cix).run P w = .ok cv w ∧ VR μ d v cv := by
  unfold indexAddrA at hs
  split at hs
  · rename_i i a n c kk k hi
    split at hs
    · rename_i e r hd hr
      split at hs
      · rename_i j hj
        split at hs
        · rename_i hc
          obtain ⟨k0, kn, hsz, hes⟩ := hc
          cases hs
          obtain ⟨ds, hu, hdesc⟩ := ti_under hi
          rw [hd] at hdesc
          cases ds <;> simp [tdOf] at hdesc
          subst hdesc
          have hrow : RowOK base μ w r (μ a.lv a.ix) := h.block _ _ _ (getRow_get hr)
          simp only [VR] at hx hix
          subst hix
          obtain ⟨h0, blk, o, sp, cap, rfl, hn, hcap, hx⟩ := hx
          rcases hx with ⟨hx1, _⟩ | ⟨rfl, arr, ha, rfl, hlo, rfl, hlen, htot, heq⟩
          · omega
          · have he := (hrow.each arr ha).1
            refine ⟨.pointer (some ⟨arr.blk, arr.sh + (a.off - arr.lo) + k.toNat * j.size, none⟩), ?_, ?_⟩
            · simp [Instr.indexAt, asIntOf, run_underlying hu, k0, kn, ti_size hj, Addr_add]
            · simp only [VR]
              have h1 : k.toNat * j.size + j.size ≤ n * j.size := by
                rw [← Nat.succ_mul]; exact Nat.mul_le_mul_right _ (by omega)
              rw [he, hes] at hlen
              refine ⟨h0, arr, ha, by (try dsimp only); omega, by (try dsimp only); omega, by (try dsimp only); congr 3; omega⟩
        · cases hs
      · cases hs
    · cases hs
  · rename_i i a kk k hi
    split at hs
    · rename_i n e r hd hr
      split at hs
      · rename_i j hj
        split at hs
        · rename_i hc
          obtain ⟨k0, kn, hin⟩ := hc
          cases hs
          obtain ⟨ds, hu, hdesc⟩ := ti_under hi
          rw [hd] at hdesc
          cases ds <;> simp [tdOf] at hdesc
          obtain ⟨rfl, rfl⟩ := hdesc
          have hrow : RowOK base μ w r (μ a.lv a.ix) := h.block _ _ _ (getRow_get hr)
          simp only [VR] at hx hix
          subst hix
          obtain ⟨h0, arr, ha, hlo, hlt, rfl⟩ := hx
          have hw := within hrow ha hlo hlt (show a.off % r.es + (k.toNat * j.size + 1) ≤ r.es by omega)
          refine ⟨.pointer (some ⟨arr.blk, arr.sh + (a.off - arr.lo) + k.toNat * j.size, none⟩), ?_, ?_⟩
          · simp [Instr.indexAt, asIntOf, run_underlying hu, Instr.sureAddr, k0, kn, ti_size hj, Addr_add]
          · simp only [VR]
            refine ⟨h0, arr, ha, by (try dsimp only); omega, by (try dsimp only); omega, by (try dsimp only); congr 3; omega⟩
        · cases hs
      · cases hs
    · cases hs
  · cases hs

def fieldA (P : Program) (t : TypeId) (x : AV) (f : Nat) : Option AV :=
  match ti P t, x with
  | some i, .agg cs =>
    match i.desc with
    | .struct fs => match fs[f]? with | some (off, ft, _) => partA P ft cs off | none => none
    | _ => none
  | _, _ => none
theorem fieldA_ok {P : Program} {μ : Mu} {w : World} {d : Nat} {t : TypeId} {x v : AV} {f : Nat} {cx : Value} (hx : VR μ d x cx) (hs : fieldA P t x f = some v) :
    ∃ cv, (Instr.field t cx f).run P w = .ok cv w ∧ VR μ d v cv := by
  unfold fieldA at hs
  split at hs
  · rename_i i cs hi
    split at hs
    · rename_i fs hd
      split at hs
      · rename_i off ft bl hf
        obtain ⟨hu, hfs⟩ := ti_struct hi hd
        subst hfs
        simp only [List.getElem?_map, Option.map_eq_some_iff] at hf
        obtain ⟨fd, hfd, he⟩ := hf
        simp only [Prod.mk.injEq] at he
        obtain ⟨rfl, rfl, _⟩ := he
        have hfd' : (P.fieldsOf t)[f]? = some fd := by simpa using hfd
        simp only [VR] at hx
        obtain ⟨c, rfl, hc⟩ := hx
        obtain ⟨cv, h1, h2⟩ := partA_ok hc hs w
        exact ⟨cv, by simp [Instr.field, run_underlying hu, hfd', asAgg, h1], h2⟩
      · cases hs
    · cases hs
  · cases hs

def indexA (P : Program) (t : TypeId) (x ix : AV) : Option AV :=
  match ti P t, x, ix with
  | some i, .str s, .int _ k =>
    match i.desc with
    | .string => if 0 ≤ k then (s[k.toNat]?).map fun b => .int .u8 b.toNat else none
    | _ => none
  | some i, .agg cs, .int _ k =>
    match i.desc with
    | .array n e => match ti P e with | some j => if 0 ≤ k ∧ k < n then partA P e cs (k.toNat * j.size) else none | none => none
    | _ => none
  | _, _, _ => none
theorem indexA_ok {P : Program} {μ : Mu} {w : World} {d : Nat} {t : TypeId} {x ix v : AV} {cx cix : Value} (hx : VR μ d x cx) (hix : VR μ d ix cix) (hs : indexA P t x ix = some v) :
    ∃ cv, (Instr.index t cx cix).run P w = .ok cv w ∧ VR μ d v cv := by
  unfold indexA at hs
  split at hs
  · rename_i i s kk k hi
    split at hs
    · rename_i hd
      split at hs
      · rename_i k0
        rw [Option.map_eq_some_iff] at hs
        obtain ⟨b, hb, rfl⟩ := hs
        obtain ⟨ds, hu, hdesc⟩ := ti_under hi
        rw [hd] at hdesc
        cases ds <;> simp [tdOf] at hdesc
        simp only [VR] at hx hix
        subst hx; subst hix
        have hb' : (⟨⟨s⟩⟩ : ByteArray)[k.toNat]? = some b := by
          show (if h : _ then _ else _) = _
          have hlt : k.toNat < s.length := (List.getElem?_eq_some_iff.1 hb).1
          have hsz : k.toNat < (⟨⟨s⟩⟩ : ByteArray).size := by rw [size_mk]; exact hlt
          rw [dif_pos hsz]
          rw [List.getElem?_eq_getElem hlt] at hb
          simp only [Option.some.injEq] at hb
          rw [← hb]; rfl
        exact ⟨.int .u8 b.toNat, by simp [Instr.index, asIntOf, run_underlying hu, k0, hb'], by simp [VR]⟩
      · cases hs
    · cases hs
  · rename_i i cs kk k hi
    split at hs
    · rename_i n e hd
      split at hs
      · rename_i j hj
        split at hs
        · rename_i hc
          obtain ⟨ds, hu, hdesc⟩ := ti_under hi
          rw [hd] at hdesc
          cases ds <;> simp [tdOf] at hdesc
          obtain ⟨rfl, rfl⟩ := hdesc
          simp only [VR] at hx hix
          subst hix
          obtain ⟨c, rfl, hc'⟩ := hx
          obtain ⟨cv, h1, h2⟩ := partA_ok hc' hs w
          exact ⟨cv, by simp [Instr.index, asIntOf, run_underlying hu, hc.1, hc.2, ti_size hj, h1], h2⟩
        · cases hs
      · cases hs
    · cases hs
  · cases hs

def extractA (x : AV) (i : Nat) : Option AV := match x with | .tup vs => vs[i]? | _ => none
theorem extractA_ok {P : Program} {μ : Mu} {w : World} {d : Nat} {x v : AV} {i : Nat} {cx : Value} (hx : VR μ d x cx) (hs : extractA x i = some v) : ∃ cv, (Instr.extract cx i).run P w = .ok cv w ∧ VR μ d v cv := by
  unfold extractA at hs
  split at hs
  · simp only [VR] at hx
    obtain ⟨c, rfl, hc⟩ := hx
    obtain ⟨cv, h1, h2⟩ := VRs_get i hc hs
    have h1' : c[i]? = some cv := by simpa using h1
    exact ⟨cv, by simp [Instr.extract, h1'], h2⟩
  · cases hs

/-! ### new variables -/
def boxA (P : Program) (t : TypeId) (hp : Bool) (v : AV) (M : Mem) : Option (AV × Mem) :=
  match ti P t with
  | some i => if v.cells.all AV.st = true ∧ v.cells.length = i.size ∧ 0 < i.size then some (.ptr (M.at_ hp), M.new hp (.row ⟨t, i.size, v.cells, false, false⟩)) else none
  | none => none

theorem newVar_ok {P : Program} {base : Nat} {μ : Mu} {M : Mem} {w : World} (h : R base μ M w) (h0 : 0 < M.depth) {t : TypeId} {hp : Bool} {v : AV} {cv : Value} {lim size : Nat} (hv : VR μ lim v cv) (hst : v.cells.all AV.st = true) (hlen : v.cells.length = size) (hpos : 0 < size) :
    ∃ a w' μ', (newVar t cv).run P w = .ok a w' ∧ VR μ' M.depth (.ptr (M.at_ hp)) (.pointer (some a)) ∧ Okay base μ M w μ' (M.new hp (.row ⟨t, size, v.cells, false, false⟩)) w' := by
  have hc := VRs_lev0 (lim' := 0) (lev0s_of_all hst) (VR_cells hv hst)
  have hl := VRs_length hc
  have hsz : cv.cells.size = v.cells.length := by simpa using hl
  obtain ⟨μ', arr, h1, h2, h3⟩ := new_row h h0 hp t size v.cells cv.cells (by omega) (by rw [hlen]; exact Nat.mod_self _) (by rw [List.take_of_length_le (by omega)]; exact hc)
  refine ⟨⟨w.heap.size, 0, none⟩, _, μ', ?_, ?_, h1⟩
  · simp [newVar, newRow]
  · have := VR_at (M := M) (hp := hp) h2 (by rw [h3]) (by rw [h3]; simp; omega)
    rw [h3] at this; exact this

theorem boxA_ok {P : Program} {base : Nat} {μ : Mu} {M M' : Mem} {w : World} {d : Nat} (h : R base μ M w) (h0 : 0 < M.depth) {t : TypeId} {hp : Bool} {x v : AV} {cx : Value} (hx : VR μ d x cx) (hs : boxA P t hp x M = some (v, M')) :
    ∃ cv w' μ', (Instr.box t cx).run P w = .ok cv w' ∧ VR μ' M.depth v cv ∧ Okay base μ M w μ' M' w' := by
  unfold boxA at hs
  split at hs
  · rename_i i hi
    split at hs
    · rename_i hc
      cases hs
      obtain ⟨a, w', μ', h1, h2, h3⟩ := newVar_ok (P := P) (t := t) (hp := hp) h h0 hx hc.1 hc.2.1 hc.2.2
      exact ⟨_, w', μ', by simp [Instr.box, h1], h2, h3⟩
    · cases hs
  · cases hs

def allocA (P : Program) (t : TypeId) (hp : Bool) (M : Mem) : Option (AV × Mem) :=
  match ti P t with
  | some i => boxA P t hp i.zero M
  | none => none
theorem allocA_ok {P : Program} {base : Nat} {μ : Mu} {M M' : Mem} {w : World} (h : R base μ M w) (h0 : 0 < M.depth) {t : TypeId} {hp : Bool} {v : AV} (hs : allocA P t hp M = some (v, M')) :
    ∃ cv w' μ', (Instr.alloc t true (.tuple #[])).run P w = .ok cv w' ∧ VR μ' M.depth v cv ∧ Okay base μ M w μ' M' w' := by
  unfold allocA at hs
  split at hs
  · rename_i i hi
    obtain ⟨z, hz1, hz2⟩ := ti_zero hi w
    obtain ⟨cv, w', μ', h1, h2⟩ := boxA_ok h h0 (hz2 μ 0) hs
    refine ⟨cv, w', μ', ?_, h2⟩
    simp only [Instr.box, Sem.run_bind] at h1
    simp only [Instr.alloc, Sem.run_bind, hz1, Result.andThen_ok]
    exact h1
  · cases hs

def mapA (M : Mem) (hp : Bool) : AV × Mem := (.map M.heap.length, M.pushH (.map []))
theorem makeMap_ok {P : Program} {base : Nat} {μ : Mu} {M : Mem} {w : World} (h : R base μ M w) :
    ∃ w' μ', (newObj (.map #[] 0)).run P w = .ok w.heap.size w' ∧ VR μ' M.depth (.map M.heap.length) (.map (some w.heap.size)) ∧ Okay base μ M w μ' (M.pushH (.map [])) w' := by
  have hnone := Mem.get_fresh (M := M)
  have he : ∀ d, Ext μ (μ.upd 0 M.heap.length [⟨w.heap.size, 0, 0, 0, 0, 0⟩]) d := fun d => Ext_new (h.nomu _ _ hnone)
  refine ⟨w.alloc (.map #[] 0), μ.upd 0 M.heap.length [⟨w.heap.size, 0, 0, 0, 0, 0⟩], by simp, ?_, ?_⟩
  · simp only [VR]; exact ⟨⟨w.heap.size, 0, 0, 0, 0, 0⟩, by rw [Mu.upd_self]; simp, rfl⟩
  · refine ⟨R.add h _ _ _ _ _ hnone Mem.get_pushH_self (fun lv ix hc => Mem.get_pushH_ne hc) rfl ?_, (Below.refl _ _).alloc h.size _, he _, rfl⟩
    refine ⟨⟨_, rfl, h.size, #[], 0, ?_, by simp [VRs], by simp [VRs], by simp, by simp⟩⟩
    show (w.heap.push _)[w.heap.size]? = _
    simp

end Go.Abs
