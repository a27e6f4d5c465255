/- Structs and slices that are built, conversions. -/
import Derived.Test.YtlpcbfndjffpfaaAbs7
import Derived.Laws.IdiomStrings
import Derived.Laws.BytesArg
set_option linter.unusedVariables false
set_option linter.unnecessarySimpa false
set_option linter.unusedSimpArgs false
namespace Go.Abs
open Go.RowKit (Below)

def splV (cs : List Value) (off : Nat) : List Value → List Value
  | [] => cs
  | y :: ys => splV (cs.set off y) (off + 1) ys
theorem VRs_spl {μ : Mu} {lim : Nat} : ∀ {ys : List AV} {us : List Value} {cs : List AV} {vs : List Value} {off : Nat}, VRs μ lim cs vs → VRs μ lim ys us → VRs μ lim (spl cs off ys) (splV vs off us)
  | [], us, cs, vs, off, h, h' => by simp only [VRs] at h'; subst h'; exact h
  | y :: ys, us, cs, vs, off, h, h' => by
    simp only [VRs] at h'
    obtain ⟨u, us', rfl, h1, h2⟩ := h'
    show VRs μ lim (spl (cs.set off y) (off + 1) ys) (splV (vs.set off u) (off + 1) us')
    exact VRs_spl (VRs_set off h h1) h2

theorem foldl_spl : ∀ (ys : List Value) (k off : Nat) (cs : Array Value), ((ys.zipIdx k).foldl (fun cs (x : Value × Nat) => cs.setIfInBounds (off + x.2) x.1) cs).toList = splV cs.toList (off + k) ys
  | [], k, off, cs => by simp [splV]
  | y :: ys, k, off, cs => by
    simp only [List.zipIdx_cons, List.foldl_cons, splV]
    rw [foldl_spl ys (k + 1) off]
    simp [Nat.add_assoc]

def fillA (place : Nat → Option (Nat × Nat)) (cs : List AV) : List (Nat × AV) → Option (List AV)
  | [] => some cs
  | (i, v) :: rest =>
    match place i with
    | some (off, size) => if v.cells.length = size ∧ off + size ≤ cs.length ∧ v.cells.all AV.st = true then fillA place (spl cs off v.cells) rest else none
    | none => none

def PRs (μ : Mu) (lim : Nat) : List (Nat × AV) → List (Nat × Value) → Prop
  | [], ps => ps = []
  | (i, x) :: xs, ps => ∃ v vs, ps = (i, v) :: vs ∧ VR μ lim x v ∧ PRs μ lim xs vs

theorem fillA_ok {μ : Mu} {lim : Nat} {place : Nat → Option (Nat × Nat)} : ∀ {xs : List (Nat × AV)} {ps : List (Nat × Value)} {cs cs' : List AV} {c : Array Value}, PRs μ lim xs ps → VRs μ lim cs c.toList → fillA place cs xs = some cs' →
    ∃ c', Instr.fill place c ps = some c' ∧ VRs μ lim cs' c'.toList
  | [], ps, cs, cs', c, hp, hc, h => by
    simp only [PRs] at hp; subst hp
    simp only [fillA, Option.some.injEq] at h; subst h
    exact ⟨c, rfl, hc⟩
  | (i, x) :: xs, ps, cs, cs', c, hp, hc, h => by
    simp only [PRs] at hp
    obtain ⟨v, vs, rfl, h1, h2⟩ := hp
    simp only [fillA] at h
    split at h
    · rename_i off size hpl
      split at h
      · rename_i hcond
        obtain ⟨e1, e2, e3⟩ := hcond
        have hcells := VRs_lev0 (lim' := lim) (lev0s_of_all e3) (VR_cells h1 e3)
        have hl := VRs_length hcells
        have hlc := VRs_length hc
        have hf := foldl_spl v.cells.toList 0 off c
        have hz : (v.cells.zipIdx.foldl (fun cs (x : Value × Nat) => cs.setIfInBounds (off + x.2) x.1) c).toList = splV c.toList off v.cells.toList := by
          rw [← Array.foldl_toList, Array.toList_zipIdx]
          simpa using hf
        obtain ⟨c', g1, g2⟩ := fillA_ok (c := v.cells.zipIdx.foldl (fun cs (x : Value × Nat) => cs.setIfInBounds (off + x.2) x.1) c) h2 (by rw [hz]; exact VRs_spl hc hcells) h
        refine ⟨c', ?_, g2⟩
        have a1 : v.cells.size = size := by simpa [e1] using hl
        have a2 : c.size = cs.length := by simpa using hlc
        simp only [Instr.fill, hpl]
        rw [if_neg (by simp; omega)]
        exact g1
      · cases h
    · cases h

/-! ### a struct or an array, by value -/
def placesOK (P : Program) (fs : List (Nat × TypeId × Bool)) : Bool := fs.all fun f => (ti P f.2.1).isSome
def placeS (P : Program) (fs : List (Nat × TypeId × Bool)) (i : Nat) : Option (Nat × Nat) :=
  match fs[i]? with
  | some (off, ft, _) => match ti P ft with | some j => some (off, j.size) | none => none
  | none => none

def buildA (P : Program) (t : TypeId) (parts : List (Nat × AV)) : Option AV :=
  match ti P t with
  | some i =>
    match i.zero with
    | .agg z =>
      match i.desc with
      | .struct fs => if placesOK P fs = true then (fillA (placeS P fs) z parts).map .agg else none
      | .array n e => match ti P e with | some j => (fillA (fun i => some (i * j.size, j.size)) z parts).map .agg | none => none
      | _ => none
    | _ => none
  | none => none

theorem run_places {P : Program} (w : World) : ∀ (fs : List Field), (fs.all fun f => (ti P f.type).isSome) = true →
    (fs.mapM fun f => (do pure (f.offset, ← sizeOf f.type) : Sem (Nat × Nat))).run P w = .ok (fs.map fun f => (f.offset, P.cellsOf f.type)) w
  | [], _ => by simp
  | f :: fs, h => by
    simp only [List.all_cons, Bool.and_eq_true] at h
    obtain ⟨j, hj⟩ := Option.isSome_iff_exists.1 h.1
    have ih := run_places w fs h.2
    simp at ih
    simp [List.mapM_cons, ti_size hj, ih, ti_cellsOf hj]

theorem buildA_ok {P : Program} {μ : Mu} {w : World} {d : Nat} {t : TypeId} {parts : List (Nat × AV)} {cparts : Array (Nat × Value)} {v : AV} (hp : PRs μ d parts cparts.toList) (hs : buildA P t parts = some v) :
    ∃ cv, (Instr.build t cparts).run P w = .ok cv w ∧ VR μ d v cv := by
  unfold buildA at hs
  split at hs
  · rename_i i hi
    obtain ⟨z0, hz1, hz2⟩ := ti_zero hi w
    split at hs
    · rename_i z hz
      have hzz := hz2 μ d
      rw [hz] at hzz
      simp only [VR] at hzz
      obtain ⟨cz, rfl, hcz⟩ := hzz
      split at hs
      · rename_i fs hd
        split at hs
        · rename_i hok
          rw [Option.map_eq_some_iff] at hs
          obtain ⟨cs', hf, rfl⟩ := hs
          obtain ⟨hu, hfs⟩ := ti_struct hi hd
          obtain ⟨c', g1, g2⟩ := fillA_ok (c := cz) hp hcz hf
          refine ⟨.agg c', ?_, by simp only [VR]; exact ⟨_, rfl, g2⟩⟩
          have hall : ((P.fieldsOf t).toList.all fun f => (ti P f.type).isSome) = true := by
            rw [hfs] at hok; simpa [placesOK, List.all_map] using hok
          have hpl := run_places (P := P) w _ hall
          have hplace : (fun i => ((P.fieldsOf t).map fun f => (f.offset, P.cellsOf f.type))[i]?) = placeS P fs := by
            funext i
            rw [hfs]
            simp only [placeS, List.getElem?_map, Array.getElem?_map]
            cases hfi : (P.fieldsOf t)[i]? with
            | none =>
              have : (P.fieldsOf t).toList[i]? = none := by simpa using hfi
              simp [this]
            | some f =>
              have h2 : (P.fieldsOf t).toList[i]? = some f := by simpa using hfi
              have hmem : f ∈ (P.fieldsOf t).toList := List.mem_of_getElem? h2
              obtain ⟨j, hj⟩ := Option.isSome_iff_exists.1 (List.all_eq_true.1 hall f hmem)
              simp [h2, hj, ti_cellsOf hj]
          simp only [Instr.build, Sem.run_bind, hz1, Result.andThen_ok, run_underlying hu, Value.cells]
          have hmap : ((P.fieldsOf t).mapM fun f => (do pure (f.offset, ← sizeOf f.type) : Sem (Nat × Nat))).run P w = .ok ((P.fieldsOf t).map fun f => (f.offset, P.cellsOf f.type)) w := by
            rw [Array.mapM_eq_mapM_toList]
            simp only [Sem.run_map, hpl, Result.andThen_ok]
            congr 1
            apply Array.ext'
            simp
          rw [hmap]
          simp only [Result.andThen_ok]
          rw [hplace, g1]
          simp
        · cases hs
      · rename_i n e hd
        split at hs
        · rename_i j hj
          rw [Option.map_eq_some_iff] at hs
          obtain ⟨cs', hf, rfl⟩ := hs
          obtain ⟨ds, hu, hdesc⟩ := ti_under hi
          rw [hd] at hdesc
          cases ds <;> simp [tdOf] at hdesc
          obtain ⟨rfl, rfl⟩ := hdesc
          obtain ⟨c', g1, g2⟩ := fillA_ok (c := cz) hp hcz hf
          refine ⟨.agg c', ?_, by simp only [VR]; exact ⟨_, rfl, g2⟩⟩
          simp only [Instr.build, Sem.run_bind, hz1, Result.andThen_ok, run_underlying hu, Value.cells, ti_size hj]
          rw [g1]; simp
        · cases hs
      · cases hs
    · cases hs
  · cases hs

/-! ### zero cells; a new slice -/
def zeros (z : List AV) (n : Nat) : List AV := (List.range (n * z.length)).map fun k => z.getD (k % z.length) .undef
theorem zeros_length (z : List AV) (n : Nat) : (zeros z n).length = n * z.length := by simp [zeros]
theorem VRs_zeros {μ : Mu} {lim n : Nat} {z : List AV} {cz : Array Value} (h : VRs μ lim z cz.toList) : VRs μ lim (zeros z n) ((Array.range (n * z.length)).map fun k => cz[k % cz.size]!).toList := by
  have hl := VRs_length h
  refine VRs_of_get (by simp [zeros]) fun i x hx => ?_
  simp only [zeros, List.getElem?_map, Option.map_eq_some_iff] at hx
  obtain ⟨k, hk, rfl⟩ := hx
  have hlt : i < n * z.length := by have := (List.getElem?_eq_some_iff.1 hk).1; simpa using this
  have hki : k = i := by rw [List.getElem?_range hlt] at hk; simpa using hk.symm
  subst hki
  have hz : 0 < z.length := by
    rcases Nat.eq_zero_or_pos z.length with h0 | h0
    · rw [h0] at hlt; simp at hlt
    · exact h0
  have hm : k % z.length < z.length := Nat.mod_lt _ hz
  obtain ⟨y, hy, hv⟩ := VRs_get (k % z.length) h (List.getElem?_eq_getElem hm)
  have hcs : cz.size = z.length := by simpa using hl
  refine ⟨y, ?_, ?_⟩
  · have hy' : cz[k % z.length]? = some y := by simpa using hy
    simp only [Array.toList_map, List.getElem?_map, Array.toList_range]
    rw [List.getElem?_range hlt]
    simp only [Option.map_some, hcs]
    rw [getElem!_def, hy']
  · simpa [List.getD, List.getElem?_eq_getElem hm] using hv

def buildSliceA (P : Program) (t : TypeId) (hp : Bool) (len : Nat) (parts : List (Nat × AV)) (M : Mem) : Option (AV × Mem) :=
  match ti P t with
  | some i =>
    match i.desc with
    | .slice e =>
      match ti P e with
      | some j =>
        if len * j.size ≤ 2 ^ 24 ∧ j.zero.cells.length = j.size ∧ j.zero.cells.all AV.st = true then
          match fillA (fun i => some (i * j.size, j.size)) (zeros j.zero.cells len) parts with
          | some cs => if cs.length % j.size = 0 ∧ len * j.size ≤ cs.length ∧ cs.all AV.st = true then some (.sl (M.at_ hp) len (some len), M.new hp (.row ⟨e, j.size, cs, false, false⟩)) else none
          | none => none
        else none
      | none => none
    | _ => none
  | none => none

theorem new_slice {P : Program} {base : Nat} {μ : Mu} {M : Mem} {w : World} (h : R base μ M w) (h0 : 0 < M.depth) (hp : Bool) (e es n : Nat) (cs : List AV) (c : Array Value) (cap : Nat) (ocap : Option Nat)
    (hle : cs.length ≤ c.size) (hes : cs.length % es = 0) (hv : VRs μ 0 cs (c.toList.take cs.length)) (hn : n ≤ cap) (hl : n * es ≤ cs.length) (hcap : cap * es ≤ c.size) (ho : ∀ m, ocap = some m → cap = m) (ho2 : ocap = none → cap * es = c.size)
    (fz : Nat × Nat := (0, 0)) (hfz : ∀ j, j < c.size → ¬ (fz.1 ≤ j ∧ j < fz.2) := by intro j _; simp) :
    ∃ μ', Okay base μ M w μ' (M.new hp (.row ⟨e, es, cs, false, false⟩)) (w.alloc (.cells c e fz)) ∧ VR μ' M.depth (.sl (M.at_ hp) n ocap) (.slice (some ⟨w.heap.size, 0, none⟩) n cap) := by
  obtain ⟨μ', arr, h1, h2, h3⟩ := new_row h h0 hp e es cs c hle hes hv fz hfz
  refine ⟨μ', h1, ?_⟩
  simp only [VR]
  refine ⟨Mem.at_lv, w.heap.size, 0, none, cap, rfl, hn, ho, .inr ⟨rfl, arr, h2, by rw [h3], by rw [h3]; exact Nat.zero_le _, by rw [h3, Mem.at_off]; rfl, by rw [h3, Mem.at_off]; simpa using hl, by rw [h3, Mem.at_off]; simpa using hcap, fun hc => by rw [h3, Mem.at_off]; simpa using ho2 hc⟩⟩

theorem buildSliceA_ok {P : Program} {base : Nat} {μ : Mu} {M M' : Mem} {w : World} {d : Nat} (h : R base μ M w) (h0 : 0 < M.depth) {t : TypeId} {hp : Bool} {len : Nat} {parts : List (Nat × AV)} {cparts : Array (Nat × Value)} {v : AV}
    (hpr : PRs μ d parts cparts.toList) (hs : buildSliceA P t hp len parts M = some (v, M')) :
    ∃ cv w' μ', (Instr.buildSlice t len cparts).run P w = .ok cv w' ∧ VR μ' M.depth v cv ∧ Okay base μ M w μ' M' w' := by
  unfold buildSliceA at hs
  split at hs
  · rename_i i hi
    split at hs
    · rename_i e hd
      split at hs
      · rename_i j hj
        split at hs
        · rename_i hc
          obtain ⟨c1, c2, c3⟩ := hc
          split at hs
          · rename_i cs hf
            split at hs
            · rename_i hm
              obtain ⟨hm1, hm2, hm3⟩ := hm
              cases hs
              obtain ⟨ds, hu, hdesc⟩ := ti_under hi
              rw [hd] at hdesc
              cases ds <;> simp [tdOf] at hdesc
              subst hdesc
              obtain ⟨z, hz1, hz2⟩ := ti_zero hj w
              have hzc := VR_cells (hz2 μ d) c3
              have hzl := VRs_length hzc
              have hz0 : VRs μ d (zeros j.zero.cells len) ((Array.range (len * j.size)).map fun k => z.cells[k % z.cells.size]!).toList := by
                have := VRs_zeros (n := len) hzc
                rw [c2] at this; exact this
              obtain ⟨c', g1, g2⟩ := fillA_ok hpr hz0 hf
              have g2l := VRs_length g2
              have g20 := VRs_lev0 (lim' := 0) (lev0s_of_all hm3) g2
              have hcl : cs.length = len * j.size := by
                have hlen : ∀ (pl : Nat → Option (Nat × Nat)) (ps : List (Nat × AV)) (a b : List AV), fillA pl a ps = some b → b.length = a.length := by
                  intro pl ps
                  induction ps with
                  | nil => intro a b hab; simp [fillA] at hab; rw [hab]
                  | cons p ps ih =>
                    intro a b hab
                    obtain ⟨i, x⟩ := p
                    simp only [fillA] at hab
                    split at hab
                    · split at hab
                      · rw [ih _ _ hab, spl_length]
                      · cases hab
                    · cases hab
                rw [hlen _ _ _ _ hf, zeros_length, c2]
              obtain ⟨μ', k1, k2⟩ := new_slice (P := P) h h0 hp e j.size len cs c' len (some len) (by simpa using (Nat.le_of_eq g2l.symm)) hm1
                (by rw [List.take_of_length_le (by simpa using Nat.le_of_eq g2l)]; exact g20) (Nat.le_refl _) (by omega) (by have hq : c'.size = cs.length := (by simpa using g2l); omega) (fun m hm => by simpa using hm) (fun hc => by cases hc)
              refine ⟨_, _, μ', ?_, k2, k1⟩
              simp only [Instr.buildSlice, Sem.run_bind, run_underlying hu, Result.andThen_ok, ti_size hj]
              rw [if_neg (by omega)]
              by_cases hz : len * j.size = 0
              · have e0 : ((Array.range (len * j.size)).map fun k => z.cells[k % z.cells.size]!) = ((Array.range (len * j.size)).map fun k => (#[] : Array Value)[k % (#[] : Array Value).size]!) := by rw [hz]; simp
                rw [e0] at g1
                rw [if_pos hz]
                simp only [Sem.run_bind, Sem.run_pure, Result.andThen_ok, g1, newRow, run_newObj]
                rfl
              · rw [if_neg hz]
                simp only [Sem.run_bind, hz1, Sem.run_pure, Result.andThen_ok, g1, newRow, run_newObj]
                rfl
            · cases hs
          · cases hs
        · cases hs
      · cases hs
    · cases hs
  · cases hs

/-! ### conversions -/
def convA (P : Program) (src dst : TypeId) (hp : Bool) (x : AV) (M : Mem) : Option (AV × Mem) :=
  match ti P src, ti P dst with
  | some i, some j =>
    match i.desc, j.desc, x with
    | _, .int k, .int _ n => some (.int k (k.wrap n), M)
    | _, .string, .str s => some (.str s, M)
    | _, .string, .int _ n => some (.str (Utf8.encode n).data.toList, M)
    | .string, .slice e, .str s =>
      match ti P e with
      | some je => match je.desc with
        | .int .u8 => some (.sl (M.at_ hp) s.length none, M.new hp (.row ⟨e, 1, bytesA s, false, false⟩))
        | _ => none
      | none => none
    | .slice e, .string, x =>
      match ti P e with
      | some je => match je.desc, sliceCells M x with
        | .int .u8, some (ys, n) => if ys.length = n then (textA ys).map fun s => (.str s, M) else none
        | _, _ => none
      | none => none
    | _, _, _ => none
  | _, _ => none

theorem textA_nums : ∀ {ys : List AV} {s : List UInt8} {μ : Mu} {lim : Nat} {vs : List Value}, textA ys = some s → VRs μ lim ys vs → ∃ xs : List Int, vs = xs.map (Value.int .u8) ∧ s = xs.map (fun n => UInt8.ofNat n.toNat)
  | [], s, μ, lim, vs, h, hv => by
    simp only [textA, Option.some.injEq] at h; subst h
    simp only [VRs] at hv; subst hv
    exact ⟨[], rfl, rfl⟩
  | x :: ys, s, μ, lim, vs, h, hv => by
    simp only [VRs] at hv
    obtain ⟨v, vs', rfl, h1, h2⟩ := hv
    unfold textA at h
    split at h
    · rename_i heq
      cases heq
    · rename_i n ys' heq
      cases heq
      rw [Option.map_eq_some_iff] at h
      obtain ⟨s', hs', rfl⟩ := h
      obtain ⟨xs, rfl, rfl⟩ := textA_nums hs' h2
      simp only [VR] at h1; subst h1
      exact ⟨n :: xs, rfl, rfl⟩
    · cases h

end Go.Abs
