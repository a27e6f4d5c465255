/- append. -/
import Derived.Test.YtlpcbfndjffpfaaAbs9
set_option linter.unusedVariables false
set_option linter.unnecessarySimpa false
set_option linter.unusedSimpArgs false
namespace Go.Abs
open Go.RowKit (Below)

def contentA (M : Mem) (x : AV) : Option (List AV × Nat) :=
  match x with
  | .str l => some (bytesA l, l.length)
  | x => sliceCells M x

def TD.isSeq : TD → Bool | .slice _ => true | .string => true | _ => false
/-- The elements of what is appended have this many cells. -/
def rowSize (M : Mem) (size : Nat) (x : AV) : Bool :=
  match x with
  | .sl a _ _ => match getRow M a with | some r => r.es == size | none => false
  | .str _ => size == 1
  | .nilsl => true
  | _ => false

def appendA (P : Program) (t1 t2 : TypeId) (hp : Bool) (s x : AV) (M : Mem) : Option (AV × Mem) :=
  match ti P t1, ti P t2 with
  | some i, some i2 =>
    match i.desc with
    | .slice e =>
      match ti P e with
      | some j =>
        if i2.desc.isSeq = false then none else
        match contentA M x with
        | some (ys, n) =>
          if rowSize M j.size x = true ∧ ys.all AV.st = true ∧ 0 < j.size ∧ 0 < j.bytes ∧ j.zero.cells.length = j.size ∧ j.zero.cells.all AV.st = true then
            match s with
            | .nilsl => if n = 0 then some (.nilsl, M) else if n * j.bytes ≤ 140737488355328 then some (.sl (M.at_ hp) n none, M.new hp (.row ⟨e, j.size, ys, false, false⟩)) else none
            | .sl a len c =>
              if n = 0 then some (.sl a len c, M) else
              match getRow M a with
              | some r =>
                if r.es = j.size then
                  match c with
                  | some k =>
                    if len + n ≤ k then
                      if r.ro = false ∧ r.mv = false ∧ a.off + (len + n) * j.size ≤ r.cs.length then some (.sl a (len + n) (some k), M.set a.lv a.ix (.row { r with cs := spl r.cs (a.off + len * j.size) ys })) else none
                    else if (len + n) * j.bytes ≤ 140737488355328 then
                      match sliceCells M (.sl a len (some k)) with
                      | some (olds, _) => some (.sl (M.at_ hp) (len + n) none, M.new hp (.row ⟨e, j.size, olds ++ ys, false, false⟩))
                      | none => none
                    else none
                  | none =>
                    if a.off + (len + n) * j.size ≤ r.cs.length then
                      if r.ro = false ∧ r.mv = false ∧ 0 < len then some (.sl a (len + n) none, M.set a.lv a.ix (.row { r with cs := spl r.cs (a.off + len * j.size) ys })) else none
                    else if r.ro = false ∧ a.off + len * j.size = r.cs.length ∧ r.e = e ∧ (len + n) * j.bytes ≤ 140737488355328 then
                      some (.sl a (len + n) none, M.set a.lv a.ix (.row { r with cs := r.cs ++ ys, mv := true })) else none
                else none
              | none => none
            | _ => none
          else none
        | none => none
      | none => none
    | _ => none
  | _, _ => none

theorem contentA_ok {P : Program} {base : Nat} {μ : Mu} {M : Mem} {w : World} {x : AV} {cx : Value} {d n size : Nat} {ys : List AV} (h : R base μ M w) (hx : VR μ d x cx) (hs : contentA M x = some (ys, n)) (hsz : rowSize M size x = true) :
    ys.length = n * size ∧ ∃ vs : List Value, (Builtin.lenOf cx).run P w = .ok n w ∧ (Builtin.firstCells size n cx).run P w = .ok vs.toArray w ∧ VRs μ 0 ys vs := by
  unfold contentA at hs
  split at hs
  · rename_i l
    cases hs
    simp only [rowSize, beq_iff_eq] at hsz
    subst hsz
    simp only [VR] at hx; subst hx
    refine ⟨by simp [bytesA_length], l.map (fun b => .int .u8 b.toNat), by simp [Builtin.lenOf, size_mk], ?_, VRs_bytesA l⟩
    simp only [Builtin.firstCells, Sem.run_pure]
    congr 1
    apply Array.ext'
    simp [ByteArray.extract, ByteArray.copySlice, List.extract_eq_take_drop]
  · rename_i x' hnot
    have hes : ∀ a r m c, x = .sl a m c → getRow M a = some r → r.es = size := by
      intro a r m c he hr
      subst he
      simp only [rowSize, hr, beq_iff_eq] at hsz
      exact hsz
    obtain ⟨vs, h1, h2, h3, _⟩ := firstCells_ok (P := P) h hx hs hes
    refine ⟨?_, vs, h1, h2, h3⟩
    unfold sliceCells at hs
    split at hs
    · cases hs; simp
    · rename_i a m c
      split at hs
      · rename_i hm; cases hs; subst hm; simp
      · rename_i hm
        split at hs
        · rename_i r hr
          cases hs
          have := hes _ _ _ _ rfl hr
          subst this
          simp only [VR] at hx
          obtain ⟨_, blk, o, sp, cap, rfl, hn, hc, hx⟩ := hx
          rcases hx with ⟨h1, _⟩ | ⟨rfl, arr, ha, rfl, hlo, rfl, hlen, _⟩
          · exact absurd h1 hm
          · have hrow : RowOK base μ w r (μ a.lv a.ix) := h.block _ _ _ (getRow_get hr)
            obtain ⟨e1, _, _, _, _, e6, _⟩ := hrow.each arr ha
            rw [e1] at hlen
            simp; omega
        · cases hs
    · cases hs

/-- In place. -/
theorem run_append_in {P : Program} {w : World} {t1 t2 ty e : TypeId} {d2 : TypeDesc} {j : TI} {b : Addr} {sLen sCap n : Nat} {cx : Value} {vs : List Value} (hu : P.underlying t1 = some (.slice e)) (hu2 : P.underlying t2 = some d2) (hd2 : (tdOf P d2).isSeq = true)
    (hj : ti P e = some j) (hlen : (Builtin.lenOf cx).run P w = .ok n w) (hf : (Builtin.firstCells j.size n cx).run P w = .ok vs.toArray w) (hle : sLen + n ≤ sCap) {w' : World} (hst : (storeCells (b.add (sLen * j.size)) vs 0).run P w = .ok () w') :
    (Builtin.append_ #[t1, t2] ty #[.slice (some b) sLen sCap, cx]).run P w = .ok (.slice (some b) (sLen + n) sCap) w' := by
  have hst' : (storeCells (b.add (sLen * j.size)) vs).run P w = .ok () w' := hst
  cases d2 <;> first | (simp [tdOf, TD.isSeq] at hd2; done) | simp [Builtin.append_, run_underlying hu, run_underlying hu2, ti_size hj, hlen, hle, hf, hst']

theorem ti_info' {P : Program} {t : TypeId} {i : TI} (h : ti P t = some i) : ∃ info, (∀ w : World, (typeInfo t).run P w = .ok info w) ∧ info.size = i.size ∧ info.bytes = i.bytes := by
  obtain ⟨info, d, z, h1, _, _, _, h2, h3, _⟩ := ti_parts h
  exact ⟨info, fun w => by simp [typeInfo, h1], h2, h3⟩
theorem ti_zero' {P : Program} {t : TypeId} {i : TI} (h : ti P t = some i) : ∃ z, (∀ w : World, (zeroValue t).run P w = .ok z w) ∧ ∀ μ lim, VR μ lim i.zero z := by
  obtain ⟨info, d, z, h1, _, h3, h4, _⟩ := ti_parts h
  exact ⟨z, fun w => by simp [zeroValue, typeInfo, h1, h3], fun μ lim => VR_ofConst h4⟩

/-- A new array. -/
theorem run_append_new {P : Program} {w : World} {t1 t2 ty e : TypeId} {d2 : TypeDesc} {j : TI} {ob : Option Addr} {sLen sCap n : Nat} {cx : Value} {vs us : List Value} (hu : P.underlying t1 = some (.slice e)) (hu2 : P.underlying t2 = some d2) (hd2 : (tdOf P d2).isSeq = true)
    (hj : ti P e = some j) (hlen : (Builtin.lenOf cx).run P w = .ok n w) (hf : (Builtin.firstCells j.size n cx).run P w.drew = .ok vs.toArray w.drew) (hlt : sCap < sLen + n)
    (hfo : (Builtin.firstCells j.size sLen (.slice ob sLen sCap)).run P w.drew = .ok us.toArray w.drew) (hb : (sLen + n) * j.bytes ≤ 140737488355328) (hbp : 0 < j.bytes) :
    ∃ z, (∀ μ lim, VR μ lim j.zero z) ∧ (Builtin.append_ #[t1, t2] ty #[.slice ob sLen sCap, cx]).run P w = .ok (.slice (some ⟨w.heap.size, 0, none⟩) (sLen + n) (grownCap w (sLen + n) sCap e))
      (w.drew.alloc (.cells (us.toArray ++ (vs.toArray ++ Builtin.zeroCells z.cells (grownCap w (sLen + n) sCap e - (sLen + n)))) e)) := by
  obtain ⟨info, hin, hin1, hin2⟩ := ti_info' hj
  obtain ⟨z, hz, hzv⟩ := ti_zero' hj
  refine ⟨z, hzv, ?_⟩
  have hn : ¬ (sLen + n ≤ sCap) := by omega
  have hbig : (sLen + n) ≤ 140737488355328 := Nat.le_trans (Nat.le_mul_of_pos_right _ hbp) hb
  have h63 : ¬ (9223372036854775807 < ((sLen : Int) + (n : Int))) := by omega
  have h48 : ¬ (281474976710656 < Builtin.nextslicecap (sLen + n) sCap * info.bytes) := by
    have := growslice_fits hlt hb
    rw [hin2]; omega
  cases d2 <;> first | (simp [tdOf, TD.isSeq] at hd2; done) | simp [Builtin.append_, run_underlying hu, run_underlying hu2, ti_size hj, hlen, hn, hin, h63, h48, Question.forced, hfo, hf, hz, newRow, grownCap]


theorem size_zeroCells (z : Array Value) (n : Nat) : (Builtin.zeroCells z n).size = n * z.size := by simp [Builtin.zeroCells]
theorem cellSize {z : AV} {cz : Value} {P : Program} {e : TypeId} {j : TI} (hj : ti P e = some j) (hz : ∀ μ lim, VR μ lim z cz) (h1 : z.cells.all AV.st = true) : cz.cells.size = z.cells.length := by
  have := VRs_length (VR_cells (hz (fun _ _ => []) 0) h1)
  simpa using this

theorem grownCap_ge (w : World) (need old : Nat) (e : TypeId) : need ≤ grownCap w need old e := by simp only [grownCap, Question.cut]; omega

theorem splV_length : ∀ (ys cs : List Value) (off : Nat), (splV cs off ys).length = cs.length
  | [], cs, off => rfl
  | y :: ys, cs, off => by simp [splV, splV_length ys]
theorem splV_get : ∀ (ys cs : List Value) (off : Nat), off + ys.length ≤ cs.length → ∀ k : Nat, (splV cs off ys)[k]? = if off ≤ k ∧ k < off + ys.length then ys[k - off]? else cs[k]?
  | [], cs, off, h, k => by simp [splV]; intro h1 h2; omega
  | y :: ys, cs, off, h, k => by
    simp only [List.length_cons] at h
    simp only [splV, List.length_cons]
    rw [splV_get ys (cs.set off y) (off + 1) (by simp; omega) k]
    by_cases hk : k = off
    · subst hk
      rw [if_neg (by omega), if_pos (by omega)]
      simp [show k < cs.length by omega]
    · by_cases h1 : off + 1 ≤ k ∧ k < off + 1 + ys.length
      · rw [if_pos h1, if_pos (by omega)]
        obtain ⟨m, hm⟩ : ∃ m, k - off = m + 1 := ⟨k - off - 1, by omega⟩
        rw [hm, List.getElem?_cons_succ, show k - (off + 1) = m by omega]
      · rw [if_neg h1, if_neg (by omega), List.getElem?_set, if_neg (by omega)]

/-- A row of stores into one block. -/
theorem run_storeCells_blk {P : Program} {g o : Nat} {e : TypeId} {fz : Nat × Nat} : ∀ (vs : List Value) (i : Nat) (c : Array Value) (w : World), w.heap[g]? = some (.cells c e fz) → (∀ j, j < c.size → ¬ (fz.1 ≤ j ∧ j < fz.2)) →
    o + i + vs.length ≤ c.size → (∀ v ∈ vs, v.oneCell' = true) →
    ∃ w' c', (storeCells ⟨g, o, none⟩ vs i).run P w = .ok () w' ∧ w'.heap[g]? = some (.cells c' e fz) ∧ c'.toList = splV c.toList (o + i) vs ∧ (∀ k, k ≠ g → w'.heap[k]? = w.heap[k]?) ∧ w'.heap.size = w.heap.size ∧ w'.os = w.os ∧ w'.tape = w.tape ∧ w'.output = w.output
  | [], i, c, w, hg, hfz, hl, h1 => ⟨w, c, by simp [storeCells], hg, rfl, fun _ _ => rfl, rfl, rfl, rfl, rfl⟩
  | v :: vs, i, c, w, hg, hfz, hl, h1 => by
    simp only [List.length_cons] at hl
    have hcell : ∃ u, w.cell? ⟨g, o + i, none⟩ = some u := by
      simp only [World.cell?, hg]
      exact ⟨c[o + i]'(by omega), by simp [show o + i < c.size by omega]⟩
    obtain ⟨u, hu⟩ := hcell
    have hfr : w.frozen? ⟨g, o + i, none⟩ = false := by
      simp only [World.frozen?, hg]
      have := hfz (o + i) (by omega)
      simp only [Bool.and_eq_false_imp, decide_eq_true_eq]
      intro h1; simp; omega
    have hset : (w.setCell ⟨g, o + i, none⟩ v).heap[g]? = some (.cells (c.setIfInBounds (o + i) v) e fz) := by
      simp [World.setCell, Array.getElem?_modify, hg]
    obtain ⟨w', c', k1, k2, k3, k4, k5, k6, k7, k8⟩ := run_storeCells_blk (P := P) (o := o) vs (i + 1) (c.setIfInBounds (o + i) v) (w.setCell ⟨g, o + i, none⟩ v) hset (by simpa using hfz) (by simp; omega) (fun x hx => h1 x (by simp [hx]))
    refine ⟨w', c', ?_, k2, ?_, fun k hk => ?_, by rw [k5]; simp, k6, k7, k8⟩
    · rw [storeCells]
      simp only [Sem.run_bind, Addr_add, run_store _ _ _ _ _ (h1 v (by simp)), hu, hfr]
      exact k1
    · rw [k3]; simp [splV, Nat.add_assoc]
    · rw [k4 k hk]; exact Below.heap_setCell _ _ _ _ hk

theorem run_append_nil0 {P : Program} {w : World} {t1 t2 ty e : TypeId} {d2 : TypeDesc} {j : TI} {cx : Value} {vs : List Value} (hu : P.underlying t1 = some (.slice e)) (hu2 : P.underlying t2 = some d2) (hd2 : (tdOf P d2).isSeq = true)
    (hj : ti P e = some j) (hlen : (Builtin.lenOf cx).run P w = .ok 0 w) (hf : (Builtin.firstCells j.size 0 cx).run P w = .ok vs.toArray w) :
    (Builtin.append_ #[t1, t2] ty #[.slice none 0 0, cx]).run P w = .ok (.slice none 0 0) w := by
  cases d2 <;> first | (simp [tdOf, TD.isSeq] at hd2; done) | simp [Builtin.append_, run_underlying hu, run_underlying hu2, ti_size hj, hlen, hf]

theorem firstCells_nil {P : Program} {w : World} {size : Nat} : (Builtin.firstCells size 0 (.slice none 0 0)).run P w = .ok (#[] : Array Value) w := by simp [Builtin.firstCells]

/-- The concrete cells of a new array: the content, and zeros behind it. -/
theorem grown_cells {μ : Mu} {ys : List AV} {vs : List Value} {len es : Nat} {z : Array Value} {cap : Nat} (hv : VRs μ 0 ys vs) (hl : ys.length = len * es) (hz : z.size = es) (hcap : len ≤ cap) :
    ys.length ≤ (vs.toArray ++ Builtin.zeroCells z (cap - len)).size ∧ VRs μ 0 ys ((vs.toArray ++ Builtin.zeroCells z (cap - len)).toList.take ys.length) ∧ (vs.toArray ++ Builtin.zeroCells z (cap - len)).size = cap * es := by
  have hvl := VRs_length hv
  have hm : len * es + (cap - len) * es = cap * es := by rw [← Nat.add_mul]; congr 1; omega
  refine ⟨by simp [hvl], ?_, by simp [size_zeroCells, hz, hvl, hl]; exact hm⟩
  rw [Array.toList_append, List.toList_toArray, List.take_append_of_le_length (by omega), List.take_of_length_le (by omega)]
  exact hv

theorem mod_of_mul {a b : Nat} : (a * b) % b = 0 := Nat.mul_mod_left a b

/-- A row that an append makes longer. -/
theorem grow_row {P : Program} {base : Nat} {μ : Mu} {M : Mem} {w : World} {a : AA} {r : Row} {len n cap blk o : Nat} {sp : Option Nat} {t1 t2 ty e : TypeId} {d2 : TypeDesc} {j : TI} {cx : Value} {ys : List AV}
    (h : R base μ M w) (hr : getRow M a = some r) (hro : r.ro = false) (hes : r.es = j.size) (hre : r.e = e) (hend : a.off + len * j.size = r.cs.length) (hyl : ys.length = n * j.size) (hst : ys.all AV.st = true) (hn : n ≠ 0) (hsz : 0 < j.size)
    (hu : P.underlying t1 = some (.slice e)) (hu2 : P.underlying t2 = some d2) (hd2 : (tdOf P d2).isSeq = true) (hj : ti P e = some j) (hby : 0 < j.bytes) (hb : (len + n) * j.bytes ≤ 140737488355328) (hz1 : j.zero.cells.length = j.size) (hz2 : j.zero.cells.all AV.st = true)
    (hcont : ∀ w' : World, w'.heap = w.heap → ∃ vs : List Value, (Builtin.lenOf cx).run P w' = .ok n w' ∧ (Builtin.firstCells j.size n cx).run P w' = .ok vs.toArray w' ∧ VRs μ 0 ys vs)
    (hlc : len ≤ cap) (hx : (len = 0 ∧ cap = 0) ∨ sp = none ∧ ∃ arr, arr ∈ μ a.lv a.ix ∧ blk = arr.blk ∧ arr.lo ≤ a.off ∧ o = arr.sh + (a.off - arr.lo) ∧ a.off + len * arr.es ≤ arr.len ∧ a.off + cap * arr.es ≤ arr.lo + arr.tot ∧ (a.off + cap * arr.es = arr.lo + arr.tot)) :
    ∃ cv w' μ', (Builtin.append_ #[t1, t2] ty #[.slice (some ⟨blk, o, sp⟩) len cap, cx]).run P w = .ok cv w' ∧ (a.lv ≤ M.depth → VR μ' M.depth (.sl a (len + n) none) cv) ∧ Okay base μ M w μ' (M.set a.lv a.ix (.row { r with cs := r.cs ++ ys, mv := true })) w' := by
  have hg := getRow_get hr
  have hrow : RowOK base μ w r (μ a.lv a.ix) := h.block _ _ _ hg
  obtain ⟨hd0, htl, hdl, hdlen⟩ := hrow.hd
  have hmod : r.cs.length % j.size = 0 := by
    obtain ⟨_, _, q, _⟩ := hrow.each hd0 (by rw [hdl]; simp)
    rw [hes] at q; rw [← hdlen]; exact q
  have haoff : a.off % j.size = 0 := by
    rw [← hend] at hmod
    rw [Nat.add_mul_mod_self_right] at hmod; exact hmod
  by_cases hin : len + n ≤ cap
  · -- in place
    rcases hx with ⟨hx1, hx2⟩ | ⟨rfl, arr, ha, rfl, hlo, rfl, hlen, htot, heq⟩
    · omega
    obtain ⟨e1, e2, e3, e4, e5, e6, e7⟩ := hrow.each arr ha
    obtain ⟨o1, o2, c, fz, o3, o4, o5⟩ := hrow.own hro arr ha
    rw [e1, hes] at hlen htot heq
    have hfull : arr.len = r.cs.length := by omega
    obtain ⟨vs, f1, f2, f3⟩ := hcont w rfl
    have hvl := VRs_length f3
    have hmul : len * j.size + n * j.size ≤ cap * j.size := by rw [← Nat.add_mul]; exact Nat.mul_le_mul_right _ hin
    obtain ⟨w', c', k1, k2, k3, k4, k5, k6, k7, k8⟩ := run_storeCells_blk (P := P) (g := arr.blk) (o := arr.sh + (a.off - arr.lo) + len * j.size) vs 0 c w o3 (fun j hj => o5 j (by omega)) (by omega) (VRs_one hst f3)
    have hrun := run_append_in (P := P) (ty := ty) (b := ⟨arr.blk, arr.sh + (a.off - arr.lo), none⟩) hu hu2 hd2 hj f1 f2 hin (w' := w') (by rw [Addr_add]; exact k1)
    let arr' : Arr := { arr with len := arr.len + n * j.size }
    let l' : List Arr := arr' :: (μ a.lv a.ix).filter (fun x => x.blk ≠ arr.blk)
    have hbelow : Below base w w' := ⟨k6, k7, k8, by omega, fun k hk => k4 k (by omega)⟩
    have hsub : ∀ x, x ∈ μ a.lv a.ix → x.blk = arr.blk → x = arr := fun x hx hxb => ((h.excl _ _ _ _ _ _ ha hx o2 hxb.symm).2.2).symm
    have hExt : ∀ x, x ∈ μ a.lv a.ix → ∃ x', x' ∈ l' ∧ x'.blk = x.blk ∧ x'.sh = x.sh ∧ x'.lo = x.lo ∧ x'.es = x.es ∧ x.len ≤ x'.len ∧ x'.tot = x.tot := by
      intro x hx
      by_cases hxb : x.blk = arr.blk
      · have := hsub x hx hxb
        subst this
        exact ⟨arr', by simp [l'], rfl, rfl, rfl, rfl, by simp [arr'], rfl⟩
      · exact ⟨x, by simp only [l', List.mem_cons, List.mem_filter]; exact .inr ⟨hx, by simpa using hxb⟩, rfl, rfl, rfl, rfl, Nat.le_refl _, rfl⟩
    have hl' : ∀ x, x ∈ l' → x = arr' ∨ (x ∈ μ a.lv a.ix ∧ x.blk ≠ arr.blk) := by
      intro x hx
      simp only [l', List.mem_cons, List.mem_filter] at hx
      rcases hx with h1 | ⟨h1, h2⟩
      · exact .inl h1
      · exact .inr ⟨h1, by simpa using h2⟩
    have hμe : Ext μ (μ.upd a.lv a.ix l') 0 := Ext_upd hExt
    have key := R.upd (M' := M.set a.lv a.ix (.row { r with cs := r.cs ++ ys, mv := true })) (w' := w') h a.lv a.ix (.row { r with cs := r.cs ++ ys, mv := true }) _ l' hg (Mem.get_set_self hg) (fun lv' ix' hc => Mem.get_set_ne hc) hExt
      (fun x hx => by
        rcases hl' x hx with rfl | ⟨h1, h2⟩
        · exact ⟨o2, .inl ⟨arr, ha, rfl⟩, by have := h.fresh _ _ _ ha; show arr.blk < _; omega⟩
        · exact ⟨(hrow.own hro x h1).2.1, .inl ⟨x, h1, rfl⟩, by have := h.fresh _ _ _ h1; omega⟩)
      (fun x y hx hy hxy => by
        rcases hl' x hx with rfl | ⟨h1, h2⟩ <;> rcases hl' y hy with rfl | ⟨h3, h4⟩
        · rfl
        · exact absurd hxy.symm h4
        · exact absurd hxy h2
        · exact (h.excl _ _ _ _ _ _ h1 h3 (hrow.own hro x h1).2.1 hxy).2.2)
      (fun k hk hnk => k4 k (fun e => hnk arr' (by simp [l']) e.symm)) (by omega) ?_
    · refine ⟨_, w', μ.upd a.lv a.ix l', hrun, fun hlv => ?_, ⟨key, hbelow, Ext_upd hExt, Mem.depth_set⟩⟩
      simp only [VR]
      refine ⟨hlv, arr.blk, arr.sh + (a.off - arr.lo), none, cap, rfl, hin, (fun m hm => by cases hm), .inr ⟨rfl, arr', by rw [Mu.upd_self]; simp [l'], rfl, hlo, rfl, ?_, ?_, fun _ => ?_⟩⟩
      · show a.off + (len + n) * arr.es ≤ arr.len + n * j.size
        rw [e1, hes, Nat.add_mul]; omega
      · show a.off + cap * arr.es ≤ arr.lo + arr.tot
        rw [e1, hes]; omega
      · show a.off + cap * arr.es = arr.lo + arr.tot
        rw [e1, hes]; omega
    · refine ⟨⟨arr', _, rfl, by simp [arr', hyl]; omega⟩, fun x hx => ?_, fun _ x hx => ?_, fun hc => by simp [hro] at hc, fun hc => by simp at hc⟩
      · rcases hl' x hx with rfl | ⟨h1, h2⟩
        · refine ⟨e1, e2, ?_, by show arr.lo ≤ arr.len + _; omega, ?_, by simp [arr', hyl]; omega, fun k y hk1 hk2 hy => ?_⟩
          · show (arr.len + n * j.size) % r.es = 0
            rw [hes, Nat.add_mul_mod_self_right, ← hes]; exact e3
          · show arr.len + n * j.size ≤ arr.lo + arr.tot
            omega
          · have hcell : w'.cell? ⟨arr.blk, arr.sh + (k - arr.lo), none⟩ = c'.toList[arr.sh + (k - arr.lo)]? := by
              simp [World.cell?, k2]
            have hk2' : k < arr.len + n * j.size := hk2
            have hk1' : arr.lo ≤ k := hk1
            show ∃ v, w'.cell? ⟨arr.blk, arr.sh + (k - arr.lo), none⟩ = some v ∧ _
            rw [hcell, k3, splV_get _ _ _ (by simp; omega)]
            rcases Nat.lt_or_ge k r.cs.length with hlt | hge
            · have hy' : r.cs[k]? = some y := by
                have : (r.cs ++ ys)[k]? = some y := hy
                rwa [List.getElem?_append_left hlt] at this
              obtain ⟨v, v1, v2⟩ := e7 k y hk1' (by omega) hy'
              refine ⟨v, ?_, VR_ext hμe (Nat.le_refl _) v2⟩
              rw [if_neg (by omega)]
              have : w.cell? ⟨arr.blk, arr.sh + (k - arr.lo), none⟩ = c.toList[arr.sh + (k - arr.lo)]? := by simp [World.cell?, o3]
              rw [← this]; exact v1
            · have hy' : ys[k - r.cs.length]? = some y := by
                have : (r.cs ++ ys)[k]? = some y := hy
                rwa [List.getElem?_append_right hge] at this
              obtain ⟨v, v1, v2⟩ := VRs_get _ f3 hy'
              refine ⟨v, ?_, VR_ext hμe (Nat.le_refl _) v2⟩
              rw [if_pos (by omega), ← v1]
              congr 1; omega
        · obtain ⟨q1, q2, q3, q4, q5, q6, q7⟩ := hrow.each x h1
          refine ⟨q1, q2, q3, q4, q5, by simp; omega, fun k y hk1 hk2 hy => ?_⟩
          have hy' : r.cs[k]? = some y := by
            have : (r.cs ++ ys)[k]? = some y := hy
            rwa [List.getElem?_append_left (by omega)] at this
          obtain ⟨v, v1, v2⟩ := q7 k y hk1 hk2 hy'
          refine ⟨v, ?_, VR_ext hμe (Nat.le_refl _) v2⟩
          rw [← v1]; unfold World.cell?; rw [k4 _ h2]
      · rcases hl' x hx with rfl | ⟨h1, h2⟩
        · refine ⟨o1, o2, c', fz, k2, ?_, o5⟩
          have : c'.toList.length = c.toList.length := by rw [k3, splV_length]
          simpa [o4] using this
        · obtain ⟨p1, p2, c2, fz2, p3, p4, p5⟩ := hrow.own hro x h1
          exact ⟨p1, p2, c2, fz2, by rw [k4 _ h2]; exact p3, p4, p5⟩
  · -- a new array
    have hR : R base μ M w.drew := h.congr rfl
    obtain ⟨us, u1, u2⟩ : ∃ us : List Value, VRs μ 0 (r.cs.drop a.off) us ∧ (Builtin.firstCells j.size len (.slice (some ⟨blk, o, sp⟩) len cap)).run P w.drew = .ok us.toArray w.drew := by
      rcases hx with ⟨hx1, hx2⟩ | ⟨rfl, arr, ha, rfl, hlo, rfl, hlen, htot, heq⟩
      · subst hx1
        refine ⟨[], ?_, by simp [Builtin.firstCells, loadCells, loadCellsFrom]⟩
        rw [List.drop_of_length_le (by omega)]; exact VRs_nil
      · obtain ⟨e1, _⟩ := hrow.each arr ha
        rw [e1, hes] at hlen
        obtain ⟨us, v1, v2, v3⟩ := cells_at hrow ha hlo hlen
        refine ⟨us, ?_, ?_⟩
        · rw [List.take_of_length_le (by simp; omega)] at v2; exact v2
        · have hl := run_loadCells_list (P := P) w.drew ⟨arr.blk, arr.sh + (a.off - arr.lo), none⟩ us (fun j v hj => by rw [Addr_add]; exact v3 j v hj)
          rw [v1] at hl
          simp [Builtin.firstCells, hl]
    obtain ⟨vs, f1, f2, f3⟩ := hcont w.drew rfl
    obtain ⟨_, g1, _, _⟩ := hcont w rfl
    have hul := VRs_length u1
    have hvl := VRs_length f3
    obtain ⟨z, hz, hrun⟩ := run_append_new (P := P) (ty := ty) (w := w) hu hu2 hd2 hj g1 f2 (by omega) u2 hb hby
    have hzs : z.cells.size = j.size := by rw [cellSize hj hz hz2, hz1]
    have hge := grownCap_ge w (len + n) cap e
    generalize hC : grownCap w (len + n) cap e = C at *
    have hcells : VRs μ 0 (r.cs.drop a.off ++ ys) (us ++ vs) := VRs_append u1 f3
    have hdl2 : (r.cs.drop a.off).length = len * j.size := by simp; omega
    have hcl : (r.cs.drop a.off ++ ys).length = (len + n) * j.size := by rw [List.length_append, hdl2, hyl, Nat.add_mul]
    obtain ⟨q1, q2, q3⟩ := grown_cells (z := z.cells) hcells hcl hzs hge
    have harr : (us.toArray ++ (vs.toArray ++ Builtin.zeroCells z.cells (C - (len + n)))) = (us ++ vs).toArray ++ Builtin.zeroCells z.cells (C - (len + n)) := by
      apply Array.ext'; simp
    rw [harr] at hrun
    generalize hcc : (us ++ vs).toArray ++ Builtin.zeroCells z.cells (C - (len + n)) = cc at *
    let arr' : Arr := ⟨w.heap.size, 0, a.off, r.cs.length + ys.length, C * j.size, j.size⟩
    let l' : List Arr := arr' :: μ a.lv a.ix
    let w' := w.drew.alloc (.cells cc e)
    have hnew : w'.heap[w.heap.size]? = some (.cells cc e (0, 0)) := by
      show (w.heap.push _)[w.heap.size]? = _
      simp
    have hold : ∀ k, k < w.heap.size → w'.heap[k]? = w.heap[k]? := fun k hk => Below.heap_alloc w.drew _ k hk
    have hExt : ∀ x, x ∈ μ a.lv a.ix → ∃ x', x' ∈ l' ∧ x'.blk = x.blk ∧ x'.sh = x.sh ∧ x'.lo = x.lo ∧ x'.es = x.es ∧ x.len ≤ x'.len ∧ x'.tot = x.tot :=
      fun x hx => ⟨x, by simp only [l', List.mem_cons]; exact .inr hx, rfl, rfl, rfl, rfl, Nat.le_refl _, rfl⟩
    have hμe : Ext μ (μ.upd a.lv a.ix l') 0 := Ext_upd hExt
    have hl' : ∀ x, x ∈ l' → x = arr' ∨ x ∈ μ a.lv a.ix := fun x hx => by simpa [l'] using hx
    have hmul : (len + n) * j.size ≤ C * j.size := Nat.mul_le_mul_right _ hge
    have hsum : (len + n) * j.size = len * j.size + n * j.size := Nat.add_mul _ _ _
    have hbelow : Below base w w' := (Below.drew (Below.refl _ _)).alloc h.size _
    have key := R.upd (M' := M.set a.lv a.ix (.row { r with cs := r.cs ++ ys, mv := true })) (w' := w') h a.lv a.ix (.row { r with cs := r.cs ++ ys, mv := true }) _ l' hg (Mem.get_set_self hg) (fun lv' ix' hc => Mem.get_set_ne hc) hExt
      (fun x hx => by
        rcases hl' x hx with rfl | h1
        · exact ⟨h.size, .inr (Nat.le_refl _), by show w.heap.size < _; simp [w']⟩
        · have := h.fresh _ _ _ h1
          exact ⟨(hrow.own hro x h1).2.1, .inl ⟨x, h1, rfl⟩, by simp [w']; omega⟩)
      (fun x y hx hy hxy => by
        rcases hl' x hx with rfl | h1 <;> rcases hl' y hy with rfl | h3
        · rfl
        · have := h.fresh _ _ _ h3
          have e : w.heap.size = y.blk := hxy
          omega
        · have := h.fresh _ _ _ h1
          have e : x.blk = w.heap.size := hxy
          omega
        · exact (h.excl _ _ _ _ _ _ h1 h3 (hrow.own hro x h1).2.1 hxy).2.2)
      (fun k hk _ => hold k hk) (by simp [w']) ?_
    · refine ⟨_, w', μ.upd a.lv a.ix l', hrun, fun hlv => ?_, ⟨key, hbelow, Ext_upd hExt, Mem.depth_set⟩⟩
      simp only [VR]
      refine ⟨hlv, w.heap.size, 0, none, C, rfl, hge, (fun m hm => by cases hm), .inr ⟨rfl, arr', by rw [Mu.upd_self]; simp [l'], rfl, Nat.le_refl _, by simp [arr'], ?_, Nat.le_refl _, fun _ => rfl⟩⟩
      show a.off + (len + n) * j.size ≤ r.cs.length + ys.length
      rw [hyl]; omega
    · refine ⟨⟨arr', _, rfl, by simp [arr']⟩, fun x hx => ?_, fun _ x hx => ?_, fun hc => by simp [hro] at hc, fun hc => by simp at hc⟩
      · rcases hl' x hx with rfl | h1
        · refine ⟨hes.symm, ?_, ?_, by show a.off ≤ r.cs.length + ys.length; omega, by show r.cs.length + ys.length ≤ a.off + C * j.size; omega, by simp [arr'], fun k y hk1 hk2 hy => ?_⟩
          · show a.off % r.es = 0
            rw [hes]; exact haoff
          · show (r.cs.length + ys.length) % r.es = 0
            rw [hes, hyl, Nat.add_mul_mod_self_right]; exact hmod
          · have hk1' : a.off ≤ k := hk1
            have hk2' : k < r.cs.length + ys.length := hk2
            have hy' : (r.cs.drop a.off ++ ys)[k - a.off]? = some y := by
              have hy0 : (r.cs ++ ys)[k]? = some y := hy
              rcases Nat.lt_or_ge k r.cs.length with hlt | hge'
              · rw [List.getElem?_append_left hlt] at hy0
                rw [List.getElem?_append_left (by simp; omega), List.getElem?_drop, show a.off + (k - a.off) = k by omega]; exact hy0
              · rw [List.getElem?_append_right hge'] at hy0
                rw [List.getElem?_append_right (by simp; omega)]
                rw [← hy0]; congr 1; simp; omega
            obtain ⟨v, v1, v2⟩ := VRs_get _ q2 hy'
            refine ⟨v, ?_, VR_ext hμe (Nat.le_refl _) v2⟩
            show w'.cell? ⟨w.heap.size, 0 + (k - a.off), none⟩ = some v
            rw [List.getElem?_take_of_lt (by rw [hcl]; omega)] at v1
            simp only [World.cell?, hnew, Nat.zero_add]
            rw [← v1]; simp
        · obtain ⟨p1, p2, p3, p4, p5, p6, p7⟩ := hrow.each x h1
          refine ⟨p1, p2, p3, p4, p5, by simp; omega, fun k y hk1 hk2 hy => ?_⟩
          have hy' : r.cs[k]? = some y := by
            have : (r.cs ++ ys)[k]? = some y := hy
            rwa [List.getElem?_append_left (by omega)] at this
          obtain ⟨v, v1, v2⟩ := p7 k y hk1 hk2 hy'
          refine ⟨v, ?_, VR_ext hμe (Nat.le_refl _) v2⟩
          rw [← v1]; unfold World.cell?; rw [hold _ (h.fresh _ _ _ h1)]
      · rcases hl' x hx with rfl | h1
        · refine ⟨rfl, h.size, cc, (0, 0), ?_, ?_, fun k hk => by simp⟩
          · show w'.heap[w.heap.size]? = _
            rw [hnew, hre]
          · show cc.size = C * j.size
            exact q3
        · obtain ⟨p1, p2, c2, fz2, p3, p4, p5⟩ := hrow.own hro x h1
          exact ⟨p1, p2, c2, fz2, by rw [hold _ (h.fresh _ _ _ h1)]; exact p3, p4, p5⟩


theorem contentA_all {P : Program} {base : Nat} {μ : Mu} {M : Mem} {w : World} {x : AV} {cx : Value} {d n size : Nat} {ys : List AV} (h : R base μ M w) (hx : VR μ d x cx) (hs : contentA M x = some (ys, n)) (hsz : rowSize M size x = true) :
    ∀ w' : World, w'.heap = w.heap → ∃ vs : List Value, (Builtin.lenOf cx).run P w' = .ok n w' ∧ (Builtin.firstCells size n cx).run P w' = .ok vs.toArray w' ∧ VRs μ 0 ys vs :=
  fun w' hw => (contentA_ok (h.congr hw) hx hs hsz).2

theorem appendA_ok {P : Program} {base : Nat} {μ : Mu} {M M' : Mem} {w : World} {d : Nat} (h : R base μ M w) (h0 : 0 < M.depth) {t1 t2 ty : TypeId} {hp : Bool} {s x v : AV} {cs cx : Value}
    (hs : VR μ d s cs) (hx : VR μ d x cx) (hd : d ≤ M.depth) (ha : appendA P t1 t2 hp s x M = some (v, M')) :
    ∃ cv w' μ', (Builtin.append_ #[t1, t2] ty #[cs, cx]).run P w = .ok cv w' ∧ VR μ' M.depth v cv ∧ Okay base μ M w μ' M' w' := by
  unfold appendA at ha
  split at ha
  · rename_i i i2 hi hi2
    obtain ⟨d2, hu2, hdesc2⟩ := ti_under hi2
    split at ha
    · rename_i e hid
      obtain ⟨ds, hu, hdesc⟩ := ti_under hi
      rw [hid] at hdesc
      cases ds <;> simp [tdOf] at hdesc
      subst hdesc
      split at ha
      · rename_i j hj
        split at ha
        · cases ha
        · rename_i hseq
          have hd2 : (tdOf P d2).isSeq = true := by rw [← hdesc2]; simpa using hseq
          split at ha
          · rename_i ys n hcont
            split at ha
            · rename_i hcond
              obtain ⟨hrs, hst, hsz, hby, hz1, hz2⟩ := hcond
              obtain ⟨hyl, vs, f1, f2, f3⟩ := contentA_ok (P := P) h hx hcont hrs
              have hR : R base μ M w.drew := h.congr rfl
              have hall := contentA_all (P := P) h hx hcont hrs
              obtain ⟨vs', f1', f2', f3'⟩ := hall w.drew rfl
              have hvl := VRs_length f3
              split at ha
              · -- a nil slice
                simp only [VR] at hs; subst hs
                split at ha
                · rename_i hn
                  cases ha
                  subst hn
                  exact ⟨_, w, μ, run_append_nil0 hu hu2 hd2 hj f1 f2, by simp [VR], Okay.refl h⟩
                · rename_i hn
                  split at ha
                  · rename_i hb
                    cases ha
                    obtain ⟨z, hz, hrun⟩ := run_append_new (P := P) (ty := ty) (w := w) (ob := none) (sLen := 0) (sCap := 0) (us := []) hu hu2 hd2 hj f1 f2' (by omega) firstCells_nil (by simpa using hb) hby
                    have hzs : z.cells.size = j.size := by rw [cellSize hj hz hz2, hz1]
                    have hge := grownCap_ge w (0 + n) 0 e
                    rw [Nat.zero_add] at hrun hge
                    generalize grownCap w n 0 e = C at *
                    obtain ⟨q1, q2, q3⟩ := grown_cells (z := z.cells) f3' hyl hzs hge
                    have harr : ((([] : List Value).toArray) ++ (vs'.toArray ++ Builtin.zeroCells z.cells (C - n))) = vs'.toArray ++ Builtin.zeroCells z.cells (C - n) := by
                      apply Array.ext'; simp
                    rw [harr] at hrun
                    obtain ⟨μ', s1, s2⟩ := new_slice (P := P) hR h0 hp e j.size n ys _ C none q1 (by rw [hyl]; exact mod_of_mul) q2 hge (by omega) (by rw [q3]; exact Nat.le_refl _) (fun m hm => by cases hm) (fun _ => q3.symm)
                    exact ⟨_, _, μ', hrun, s2, ⟨s1.r, (Below.drew (Below.refl _ _)).trans s1.b, s1.e, s1.d⟩⟩
                  · cases ha
              · -- a slice
                rename_i a len c
                have hs' := hs
                simp only [VR] at hs
                obtain ⟨hlv, blk, o, sp, cap, rfl, hnc, hcap, hx'⟩ := hs
                split at ha
                · rename_i hn
                  cases ha
                  subst hn
                  have hv0 : vs = [] := List.eq_nil_of_length_eq_zero (by rw [hvl, hyl]; simp)
                  subst hv0
                  exact ⟨_, w, μ, run_append_in hu hu2 hd2 hj f1 f2 (by omega) (by simp [storeCells]), VR_lim hd (by simpa using hs'), Okay.refl h⟩
                · rename_i hn
                  split at ha
                  · rename_i r hr
                    have hg := getRow_get hr
                    have hrow : RowOK base μ w r (μ a.lv a.ix) := h.block _ _ _ hg
                    split at ha
                    · rename_i hes
                      -- stores into the row, in place
                      have inplace : ∀ (c' : Option Nat), c' = c → len + n ≤ cap → r.ro = false → r.mv = false → a.off + (len + n) * j.size ≤ r.cs.length → ¬ (len = 0 ∧ cap = 0) →
                          ∃ cv w' μ', (Builtin.append_ #[t1, t2] ty #[.slice (some ⟨blk, o, sp⟩) len cap, cx]).run P w = .ok cv w' ∧ VR μ' M.depth (.sl a (len + n) c') cv ∧ Okay base μ M w μ' (M.set a.lv a.ix (.row { r with cs := spl r.cs (a.off + len * j.size) ys })) w' := by
                        intro c' hc' hle hro hmv hin hnl
                        rcases hx' with hx' | ⟨rfl, arr, har, rfl, hlo, rfl, hlen, htot, heq⟩
                        · exact absurd hx' hnl
                        obtain ⟨e1, e2, e3, e4, e5, e6, e7⟩ := hrow.each arr har
                        obtain ⟨a0, l0, hal, halen⟩ := hrow.hd
                        have hone := hrow.mv hmv
                        have hl0 : l0 = [] := by rw [hal] at hone; simpa using hone
                        have haa : arr = a0 := by rw [hal, hl0] at har; simpa using har
                        have hsum : (len + n) * j.size = len * j.size + n * j.size := Nat.add_mul _ _ _
                        obtain ⟨w', k1, k2, k3⟩ := store_cells (P := P) har trivial ys vs (a.off + len * j.size) 0 M w r h hg hro hmv (by omega) (by rw [haa, halen, hyl]; omega) hst f3
                        refine ⟨_, w', μ, run_append_in hu hu2 hd2 hj f1 f2 hle (w' := w') (by rw [Addr_add, show arr.sh + (a.off - arr.lo) + len * j.size = arr.sh + (a.off + len * j.size - arr.lo) by omega]; exact k1), ?_, ⟨by simpa using k2, k3, Ext.refl _ _, Mem.depth_set⟩⟩
                        simp only [VR]
                        refine ⟨by omega, arr.blk, _, none, cap, rfl, hle, by rw [hc']; exact hcap, .inr ⟨rfl, arr, har, rfl, hlo, rfl, ?_, htot, by rw [hc']; exact heq⟩⟩
                        rw [e1, hes, haa, halen]; exact hin
                      split at ha
                      · -- its capacity is known
                        rename_i k
                        have hck := hcap k rfl
                        split at ha
                        · rename_i hle
                          split at ha
                          · rename_i hc
                            cases ha
                            exact inplace _ rfl (by omega) hc.1 hc.2.1 hc.2.2 (by omega)
                          · cases ha
                        · rename_i hle
                          split at ha
                          · rename_i hb
                            split at ha
                            · rename_i olds n2 holds
                              cases ha
                              have hes2 : ∀ a' r' m c', AV.sl a len (some k) = .sl a' m c' → getRow M a' = some r' → r'.es = j.size := by
                                intro a' r' m c' he hr'
                                cases he
                                rw [hr] at hr'; cases hr'
                                exact hes
                              have hs2 : VR μ d (.sl a len (some k)) (.slice (some ⟨blk, o, sp⟩) len cap) := hs'
                              obtain ⟨us, g1, g2, g3, _⟩ := firstCells_ok (P := P) hR hs2 holds hes2
                              have hn2 : n2 = len := by
                                simp only [Builtin.lenOf, Sem.run_pure] at g1
                                cases g1; rfl
                              subst hn2
                              obtain ⟨z, hz, hrun⟩ := run_append_new (P := P) (ty := ty) (w := w) hu hu2 hd2 hj f1 f2' (by omega) g2 hb hby
                              have hzs : z.cells.size = j.size := by rw [cellSize hj hz hz2, hz1]
                              have hge := grownCap_ge w (n2 + n) cap e
                              generalize grownCap w (n2 + n) cap e = C at *
                              have hol : olds.length = n2 * j.size := by
                                unfold sliceCells at holds
                                simp only at holds
                                split at holds
                                · rename_i hz0; cases holds; simp [hz0]
                                · rename_i hz0
                                  rw [hr] at holds
                                  simp only [Option.some.injEq, Prod.mk.injEq] at holds
                                  rw [← holds.1, hes]
                                  rcases hx' with hx' | ⟨rfl, arr, har, rfl, hlo, rfl, hlen, htot, heq⟩
                                  · exact absurd hx'.1 hz0
                                  · obtain ⟨e1, _, _, _, _, e6, _⟩ := hrow.each arr har
                                    rw [e1, hes] at hlen
                                    simp; omega
                              have hcells : VRs μ 0 (olds ++ ys) (us ++ vs') := VRs_append g3 f3'
                              have hcl : (olds ++ ys).length = (n2 + n) * j.size := by rw [List.length_append, hol, hyl, Nat.add_mul]
                              obtain ⟨q1, q2, q3⟩ := grown_cells (z := z.cells) hcells hcl hzs hge
                              have harr : (us.toArray ++ (vs'.toArray ++ Builtin.zeroCells z.cells (C - (n2 + n)))) = (us ++ vs').toArray ++ Builtin.zeroCells z.cells (C - (n2 + n)) := by
                                apply Array.ext'; simp
                              rw [harr] at hrun
                              obtain ⟨μ', s1, s2⟩ := new_slice (P := P) hR h0 hp e j.size (n2 + n) (olds ++ ys) _ C none q1 (by rw [hcl]; exact mod_of_mul) q2 hge (by omega) (by rw [q3]; exact Nat.le_refl _) (fun m hm => by cases hm) (fun _ => q3.symm)
                              exact ⟨_, _, μ', hrun, s2, ⟨s1.r, (Below.drew (Below.refl _ _)).trans s1.b, s1.e, s1.d⟩⟩
                            · cases ha
                          · cases ha
                      · -- not known
                        split at ha
                        · rename_i hin
                          split at ha
                          · rename_i hc
                            cases ha
                            have hle : len + n ≤ cap := by
                              rcases hx' with hx' | ⟨rfl, arr, har, rfl, hlo, rfl, hlen, htot, heq⟩
                              · omega
                              · obtain ⟨e1, _, _, _, e5, _, _⟩ := hrow.each arr har
                                obtain ⟨a0, l0, hal, halen⟩ := hrow.hd
                                have hone := hrow.mv hc.2.1
                                have hl0 : l0 = [] := by rw [hal] at hone; simpa using hone
                                have haa : arr = a0 := by rw [hal, hl0] at har; simpa using har
                                have := heq rfl
                                rw [e1, hes] at this
                                have hal2 : arr.len = r.cs.length := by rw [haa, halen]
                                have : (len + n) * j.size ≤ cap * j.size := by omega
                                exact Nat.le_of_mul_le_mul_right this hsz
                            exact inplace _ rfl hle hc.1 hc.2.1 hin (by omega)
                          · cases ha
                        · split at ha
                          · rename_i hc
                            obtain ⟨c1, c2, c3, c4⟩ := hc
                            cases ha
                            obtain ⟨cv, w', μ', g1, g2, g3⟩ := grow_row (P := P) (ty := ty) (cx := cx) h hr c1 hes c3 c2 hyl hst hn hsz hu hu2 hd2 hj hby c4 hz1 hz2 hall hnc (by
                              rcases hx' with hx' | ⟨hsp, arr, har, h1, hlo, h2, hlen, htot, heq⟩
                              · exact .inl hx'
                              · exact .inr ⟨hsp, arr, har, h1, hlo, h2, hlen, htot, heq rfl⟩)
                            exact ⟨cv, w', μ', g1, g2 (by omega), g3⟩
                          · cases ha
                    · cases ha
                  · cases ha
              · cases ha
            · cases ha
          · cases ha
      · cases ha
    · cases ha
  · cases ha

end Go.Abs
