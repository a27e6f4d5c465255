/- Loads, stores and new rows: what they do to the relation. -/
import Derived.Test.YtlpcbfndjffpfaaAbs2
set_option linter.unusedVariables false
set_option linter.unnecessarySimpa false
set_option linter.unusedSimpArgs false
namespace Go.Abs
open Go.RowKit (Below)

structure Okay (base : Nat) (μ : Mu) (M : Mem) (w : World) (μ' : Mu) (M' : Mem) (w' : World) : Prop where
  r : R base μ' M' w'
  b : Below base w w'
  e : Ext μ μ' M.depth
  d : M'.depth = M.depth

theorem Okay.refl {base : Nat} {μ : Mu} {M : Mem} {w : World} (h : R base μ M w) : Okay base μ M w μ M w := ⟨h, Below.refl _ _, Ext.refl _ _, rfl⟩
theorem Okay.trans {base : Nat} {μ μ' μ'' : Mu} {M M' M'' : Mem} {w w' w'' : World} (h : Okay base μ M w μ' M' w') (k : Okay base μ' M' w' μ'' M'' w'') : Okay base μ M w μ'' M'' w'' :=
  ⟨k.r, h.b.trans k.b, h.e.trans (by rw [← h.d]; exact k.e), k.d.trans h.d⟩

def Mem.new (M : Mem) (hp : Bool) (b : Block) : Mem := if hp then M.pushH b else M.pushL b
def Mem.at_ (M : Mem) (hp : Bool) : AA := if hp then ⟨0, M.heap.length, 0⟩ else ⟨M.depth, M.top.length, 0⟩

theorem Mem.new_get {M : Mem} {hp : Bool} {b : Block} (h0 : 0 < M.depth) : (M.new hp b).get (M.at_ hp).lv (M.at_ hp).ix = some b := by
  cases hp
  · exact Mem.get_pushL_self h0
  · exact Mem.get_pushH_self
theorem Mem.new_ne {M : Mem} {hp : Bool} {b : Block} (h0 : 0 < M.depth) {lv ix : Nat} (h : ¬ (lv = (M.at_ hp).lv ∧ ix = (M.at_ hp).ix)) : (M.new hp b).get lv ix = M.get lv ix := by
  cases hp
  · exact Mem.get_pushL_ne h0 h
  · exact Mem.get_pushH_ne h
theorem Mem.new_none {M : Mem} {hp : Bool} (h0 : 0 < M.depth) : M.get (M.at_ hp).lv (M.at_ hp).ix = none := by
  cases hp
  · exact Mem.get_freshL h0
  · exact Mem.get_fresh
theorem Mem.new_depth {M : Mem} {hp : Bool} {b : Block} (h0 : 0 < M.depth) : (M.new hp b).depth = M.depth := by
  cases hp
  · exact Mem.depth_pushL h0
  · exact Mem.depth_pushH
theorem Mem.at_lv {M : Mem} {hp : Bool} : (M.at_ hp).lv ≤ M.depth := by cases hp <;> simp [Mem.at_]
theorem Mem.at_off {M : Mem} {hp : Bool} : (M.at_ hp).off = 0 := by cases hp <;> rfl

/-- A new row. -/
theorem new_row {base : Nat} {μ : Mu} {M : Mem} {w : World} (h : R base μ M w) (h0 : 0 < M.depth) (hp : Bool) (e es : Nat) (cs : List AV) (c : Array Value)
    (hle : cs.length ≤ c.size) (hes : cs.length % es = 0) (hv : VRs μ 0 cs (c.toList.take cs.length)) (fz : Nat × Nat := (0, 0)) (hfz : ∀ j, j < c.size → ¬ (fz.1 ≤ j ∧ j < fz.2) := by intro j _; simp) :
    ∃ μ' arr, Okay base μ M w μ' (M.new hp (.row ⟨e, es, cs, false, false⟩)) (w.alloc (.cells c e fz)) ∧ arr ∈ μ' (M.at_ hp).lv (M.at_ hp).ix ∧ arr = ⟨w.heap.size, 0, 0, cs.length, c.size, es⟩ := by
  refine ⟨μ.upd (M.at_ hp).lv (M.at_ hp).ix [⟨w.heap.size, 0, 0, cs.length, c.size, es⟩], _, ?_, ?_, rfl⟩
  · have hnone := Mem.new_none (M := M) (hp := hp) h0
    have he : ∀ d, Ext μ (μ.upd (M.at_ hp).lv (M.at_ hp).ix [⟨w.heap.size, 0, 0, cs.length, c.size, es⟩]) d := fun d => Ext_new (h.nomu _ _ hnone)
    refine ⟨R.add h _ _ _ _ _ hnone (Mem.new_get h0) (fun lv ix hc => Mem.new_ne h0 hc) rfl ?_, (Below.refl _ _).alloc h.size _, he _, Mem.new_depth h0⟩
    refine ⟨⟨_, [], rfl, rfl⟩, fun arr ha => ?_, fun _ arr ha => ?_, fun hc => by simp at hc, fun _ => rfl⟩
    · simp only [List.mem_singleton] at ha; subst ha
      refine ⟨rfl, by simp, hes, Nat.zero_le _, by simpa using hle, Nat.le_refl _, fun j x _ hj hx => ?_⟩
      obtain ⟨v, hv1, hv2⟩ := VRs_get j hv hx
      refine ⟨v, ?_, VR_ext (he 0) (Nat.le_refl _) hv2⟩
      rw [List.getElem?_take_of_lt hj] at hv1
      have hpush : (w.alloc (.cells c e fz)).heap[w.heap.size]? = some (.cells c e fz) := by
        show (w.heap.push _)[w.heap.size]? = _
        simp
      simp only [World.cell?, hpush, Nat.zero_add, Nat.sub_zero]
      rw [← hv1]; simp
    · simp only [List.mem_singleton] at ha; subst ha
      refine ⟨rfl, h.size, c, fz, ?_, rfl, hfz⟩
      show (w.heap.push _)[w.heap.size]? = _
      simp
  · rw [Mu.upd_self]; simp

theorem VR_at {μ' : Mu} {M : Mem} {hp : Bool} {arr : Arr} (ha : arr ∈ μ' (M.at_ hp).lv (M.at_ hp).ix) (hlo : arr.lo = 0) (hlen : 0 < arr.len) : VR μ' M.depth (.ptr (M.at_ hp)) (.pointer (some ⟨arr.blk, arr.sh, none⟩)) := by
  simp only [VR]
  exact ⟨Mem.at_lv, arr, ha, by rw [hlo]; exact Nat.zero_le _, by rw [Mem.at_off]; exact hlen, by rw [Mem.at_off, hlo]; rfl⟩

def getRow (M : Mem) (a : AA) : Option Row := match M.get a.lv a.ix with | some (.row r) => some r | _ => none
theorem getRow_get {M : Mem} {a : AA} {r : Row} (h : getRow M a = some r) : M.get a.lv a.ix = some (.row r) := by
  unfold getRow at h; split at h
  · cases h; assumption
  · cases h

theorem Addr_add (b o n : Nat) : (⟨b, o, none⟩ : Addr).add n = ⟨b, o + n, none⟩ := by
  unfold Addr.add; split <;> simp_all

/-- An address inside a row's element: the cells from there on, up to the element's end, are known. -/
theorem within {base : Nat} {μ : Mu} {w : World} {r : Row} {arrs : List Arr} (h : RowOK base μ w r arrs) {arr : Arr} (ha : arr ∈ arrs) {off n : Nat} (h1 : arr.lo ≤ off) (h2 : off < arr.len) (h3 : off % r.es + n ≤ r.es) : off + n ≤ arr.len := by
  obtain ⟨_, hlo, hlen, _⟩ := h.each arr ha
  rcases Nat.eq_zero_or_pos r.es with he | he
  · rw [he] at h3
    omega
  · have e1 := Nat.div_add_mod off r.es
    have e2 := Nat.div_add_mod arr.len r.es
    rw [hlen] at e2
    have hlt : off / r.es < arr.len / r.es := by
      rcases Nat.lt_or_ge (off / r.es) (arr.len / r.es) with hlt | hge
      · exact hlt
      · have := Nat.mul_le_mul_left r.es hge
        omega
    have := Nat.mul_le_mul_left r.es hlt
    rw [Nat.mul_succ] at this
    omega

theorem cells_at {base : Nat} {μ : Mu} {w : World} {r : Row} {arrs : List Arr} (h : RowOK base μ w r arrs) {arr : Arr} (ha : arr ∈ arrs) {off n : Nat} (h1 : arr.lo ≤ off) (h2 : off + n ≤ arr.len) :
    ∃ vs : List Value, vs.length = n ∧ VRs μ 0 ((r.cs.drop off).take n) vs ∧ ∀ (j : Nat) (v : Value), vs[j]? = some v → w.cell? ⟨arr.blk, arr.sh + (off - arr.lo) + j, none⟩ = some v := by
  obtain ⟨_, _, _, _, _, hl, hc⟩ := h.each arr ha
  induction n with
  | zero => exact ⟨[], rfl, by simp [VRs], fun j v hj => by simp at hj⟩
  | succ n ih =>
    obtain ⟨vs, h3, h4, h5⟩ := ih (by omega)
    have hlt : off + n < r.cs.length := by omega
    obtain ⟨v, hv1, hv2⟩ := hc (off + n) _ (by omega) (by omega) (List.getElem?_eq_getElem hlt)
    refine ⟨vs ++ [v], by simp [h3], ?_, fun j u hj => ?_⟩
    · rw [List.take_succ_eq_append_getElem (by simp; omega)]
      refine VRs_append h4 (VRs_cons ?_ VRs_nil)
      rw [List.getElem_drop]; exact hv2
    · rw [List.getElem?_append] at hj
      split at hj
      · exact h5 j u hj
      · rename_i hge
        have hj0 : j - vs.length = 0 := by
          rcases Nat.eq_zero_or_pos (j - vs.length) with h | h
          · exact h
          · rw [List.getElem?_eq_none (by simp; omega)] at hj; cases hj
        rw [hj0] at hj
        simp at hj; subst hj
        rw [show arr.sh + (off - arr.lo) + j = arr.sh + (off + n - arr.lo) by omega]
        exact hv1

def loadA (P : Program) (t : TypeId) (x : AV) (M : Mem) : Option AV :=
  match ti P t, x with
  | some i, .ptr a =>
    match getRow M a with
    | some r => if i.isAgg = true then (if a.off % r.es + i.size ≤ r.es then some (.agg ((r.cs.drop a.off).take i.size)) else none) else r.cs[a.off]?
    | none => none
  | _, _ => none

theorem loadA_ok {P : Program} {base : Nat} {μ : Mu} {M : Mem} {w : World} {t : TypeId} {x v : AV} {cx : Value} {d : Nat} (h : R base μ M w) (hx : VR μ d x cx) (hl : loadA P t x M = some v) :
    ∃ cv, (Instr.loadAt t cx).run P w = .ok cv w ∧ VR μ 0 v cv := by
  unfold loadA at hl
  split at hl
  · rename_i _ _ i a hi
    split at hl
    · rename_i r hr
      have hrow : RowOK base μ w r (μ a.lv a.ix) := h.block _ _ _ (getRow_get hr)
      simp only [VR] at hx
      obtain ⟨_, arr, ha, hlo, hlt, rfl⟩ := hx
      split at hl
      · rename_i hagg
        split at hl
        · rename_i hin
          cases hl
          obtain ⟨vs, h1, h2, h3⟩ := cells_at hrow ha hlo (within hrow ha hlo hlt hin)
          refine ⟨.agg vs.toArray, ?_, ?_⟩
          · have := run_loadCells_list (P := P) w ⟨arr.blk, arr.sh + (a.off - arr.lo), none⟩ vs (fun j v hj => by rw [Addr_add]; exact h3 j v hj)
            simp [Instr.loadAt, Instr.sureAddr, loadVar, ti_isAgg hi, hagg, ti_size hi, ← h1, this]
          · simp only [VR]; exact ⟨_, rfl, h2⟩
        · cases hl
      · rename_i hagg
        obtain ⟨_, _, _, _, _, hle, hc⟩ := hrow.each arr ha
        obtain ⟨cv, h1, h2⟩ := hc a.off v hlo hlt hl
        have hagg' : i.isAgg = false := by simpa using hagg
        refine ⟨cv, ?_, h2⟩
        simp [Instr.loadAt, Instr.sureAddr, loadVar, ti_isAgg hi, hagg', h1]
    · cases hl
  · cases hl

/-! ### stores -/
def spl (cs : List AV) (off : Nat) : List AV → List AV
  | [] => cs
  | y :: ys => spl (cs.set off y) (off + 1) ys
theorem spl_length (ys : List AV) : ∀ (cs : List AV) (off : Nat), (spl cs off ys).length = cs.length := by
  induction ys with
  | nil => intro cs off; rfl
  | cons y ys ih => intro cs off; simp [spl, ih]

theorem Mu.upd_same (μ : Mu) (lv ix : Nat) : μ.upd lv ix (μ lv ix) = μ := by
  funext a b; unfold Mu.upd; split
  · rename_i h; rw [h.1, h.2]
  · rfl

theorem store_one {P : Program} {base : Nat} {μ : Mu} {M M' : Mem} {w : World} {r : Row} {lv ix j : Nat} {x : AV} {v : Value} {arr : Arr} (h : R base μ M w) (hg : M.get lv ix = some (.row r)) (hro : r.ro = false) (hmv : r.mv = false)
    (ha : arr ∈ μ lv ix) (hlo : arr.lo ≤ j) (hj : j < arr.len) (hs : x.st = true) (hv : VR μ 0 x v)
    (hM : M'.get lv ix = some (.row { r with cs := r.cs.set j x })) (hne : ∀ lv' ix', ¬ (lv' = lv ∧ ix' = ix) → M'.get lv' ix' = M.get lv' ix') :
    (store ⟨arr.blk, arr.sh + (j - arr.lo), none⟩ v).run P w = .ok () (w.setCell ⟨arr.blk, arr.sh + (j - arr.lo), none⟩ v) ∧
    R base μ M' (w.setCell ⟨arr.blk, arr.sh + (j - arr.lo), none⟩ v) ∧ Below base w (w.setCell ⟨arr.blk, arr.sh + (j - arr.lo), none⟩ v) := by
  have hrow : RowOK base μ w r (μ lv ix) := h.block _ _ _ hg
  obtain ⟨e1, e2, e3, e4, e5, e6, e7⟩ := hrow.each arr ha
  obtain ⟨o1, o2, c, fz, o3, o4, o5⟩ := hrow.own hro arr ha
  have hone := hrow.mv hmv
  obtain ⟨a0, l0, hal, halen⟩ := hrow.hd
  have hl0 : l0 = [] := by rw [hal] at hone; simpa using hone
  subst hl0
  have haa : arr = a0 := by rw [hal] at ha; simpa using ha
  subst haa
  have hjl : j < r.cs.length := by omega
  obtain ⟨v0, c1, _⟩ := e7 j _ hlo hj (List.getElem?_eq_getElem hjl)
  have hfr : w.frozen? ⟨arr.blk, arr.sh + (j - arr.lo), none⟩ = false := by
    simp only [World.frozen?, o3]
    have := o5 (arr.sh + (j - arr.lo)) (by omega)
    simp only [decide_eq_false_iff_not, Bool.and_eq_false_imp, decide_eq_true_eq]
    intro h1; simp; omega
  refine ⟨?_, ?_, (Below.refl _ _).setCell o2 _⟩
  · rw [run_store _ _ _ _ _ (VR_st_one hs hv)]
    simp only [c1, hfr]; rfl
  · have hself : (w.setCell ⟨arr.blk, arr.sh + (j - arr.lo), none⟩ v).heap[arr.blk]? = some (.cells (c.setIfInBounds (arr.sh + (j - arr.lo)) v) r.e fz) := by
      simp [World.setCell, Array.getElem?_modify, o3]
    have key := R.upd (w' := w.setCell ⟨arr.blk, arr.sh + (j - arr.lo), none⟩ v) h lv ix (.row { r with cs := r.cs.set j x }) _ (μ lv ix) hg hM hne
      (fun a ha => ⟨a, ha, rfl, rfl, rfl, rfl, Nat.le_refl _, rfl⟩)
      (fun a' ha' => ⟨by rw [hal] at ha'; simp at ha'; subst ha'; exact o2, .inl ⟨a', ha', rfl⟩, by simpa using h.fresh _ _ _ ha'⟩)
      (fun a1 a2 h1 h2 _ => by rw [hal] at h1 h2; simp at h1 h2; rw [h1, h2])
      (fun k hk hnk => Below.heap_setCell _ _ _ _ (fun e => hnk arr (by rw [hal]; simp) e.symm))
      (by simp) ?_
    · rw [Mu.upd_same] at key; exact key
    rw [Mu.upd_same]
    refine ⟨⟨arr, [], hal, by simp [halen]⟩, fun a ha' => ?_, fun _ a ha' => ?_, fun hc => by simp [hro] at hc, fun _ => hone⟩
    · rw [hal] at ha'; simp at ha'; subst ha'
      refine ⟨e1, e2, e3, e4, e5, by simpa using e6, fun k y hk1 hk2 hy => ?_⟩
      simp only [List.getElem?_set] at hy
      by_cases hkj : j = k
      · subst hkj
        simp [hjl] at hy; subst hy
        exact ⟨v, World.cell?_setCell_same _ _ _ c1, hv⟩
      · simp [hkj] at hy
        obtain ⟨u, hu1, hu2⟩ := e7 k y hk1 hk2 hy
        refine ⟨u, ?_, hu2⟩
        rw [World.cell?_setCell_other _ _ _ _ (by intro e; simp at e; omega)]
        exact hu1
    · rw [hal] at ha'; simp at ha'; subst ha'
      exact ⟨o1, o2, _, fz, hself, by simp [o4], o5⟩

theorem store_cells {P : Program} {base : Nat} {μ : Mu} {lv ix : Nat} {arr : Arr} (ha : arr ∈ μ lv ix) (hlo0 : True) : ∀ (ys : List AV) (vs : List Value) (off i : Nat) (M : Mem) (w : World) (r : Row), R base μ M w → M.get lv ix = some (.row r) →
    r.ro = false → r.mv = false → arr.lo ≤ off → off + i + ys.length ≤ arr.len → ys.all AV.st = true → VRs μ 0 ys vs →
    ∃ w', (storeCells ⟨arr.blk, arr.sh + (off - arr.lo), none⟩ vs i).run P w = .ok () w' ∧ R base μ (M.set lv ix (.row { r with cs := spl r.cs (off + i) ys })) w' ∧ Below base w w'
  | [], vs, off, i, M, w, r, h, hg, hro, hmv, hlo, hlen, hst, hv => by
    simp only [VRs] at hv; subst hv
    refine ⟨w, by simp [storeCells], ?_, Below.refl _ _⟩
    have : M.set lv ix (.row { r with cs := spl r.cs (off + i) [] }) = M.set lv ix (.row r) := rfl
    rw [this]
    refine ⟨h.size, fun lv' ix' b hb => ?_, fun lv' ix' hn => ?_, h.fresh, h.excl⟩
    · by_cases hc : lv' = lv ∧ ix' = ix
      · obtain ⟨rfl, rfl⟩ := hc
        rw [Mem.get_set_self hg] at hb; cases hb
        exact h.block _ _ _ hg
      · rw [Mem.get_set_ne hc] at hb; exact h.block _ _ _ hb
    · by_cases hc : lv' = lv ∧ ix' = ix
      · obtain ⟨rfl, rfl⟩ := hc
        rw [Mem.get_set_self hg] at hn; cases hn
      · rw [Mem.get_set_ne hc] at hn; exact h.nomu _ _ hn
  | y :: ys, vs, off, i, M, w, r, h, hg, hro, hmv, hlo, hlen, hst, hv => by
    simp only [VRs] at hv
    obtain ⟨u, us, rfl, hv1, hv2⟩ := hv
    simp only [List.all_cons, Bool.and_eq_true] at hst
    simp only [List.length_cons] at hlen
    obtain ⟨s1, s2, s3⟩ := store_one (P := P) (M' := M.set lv ix (.row { r with cs := r.cs.set (off + i) y })) h hg hro hmv ha (by omega) (by omega : off + i < arr.len) hst.1 hv1 (Mem.get_set_self hg) (fun lv' ix' hc => Mem.get_set_ne hc)
    obtain ⟨w', t1, t2, t3⟩ := store_cells ha hlo0 ys us off (i + 1) _ _ { r with cs := r.cs.set (off + i) y } s2 (Mem.get_set_self hg) hro hmv hlo (by omega) hst.2 hv2
    refine ⟨w', ?_, ?_, s3.trans t3⟩
    · rw [storeCells]
      simp only [Sem.run_bind, Addr_add]
      rw [show arr.sh + (off - arr.lo) + i = arr.sh + (off + i - arr.lo) by omega, s1]
      exact t1
    · have e : (M.set lv ix (.row { r with cs := r.cs.set (off + i) y })).set lv ix (.row { r with cs := spl (r.cs.set (off + i) y) (off + (i + 1)) ys }) = M.set lv ix (.row { r with cs := spl r.cs (off + i) (y :: ys) }) := by
        unfold Mem.set
        by_cases h0 : lv = 0
        · simp [h0, spl, Nat.add_assoc]
        · simp only [h0, if_false]
          by_cases hl : lv ≤ M.stk.length
          · simp only [hl, if_true, List.length_modify, spl, Nat.add_assoc]
            congr 1
            apply List.ext_getElem?
            intro k
            simp only [List.getElem?_modify]
            cases M.stk[k]? with
            | none => simp
            | some fr => by_cases hk : M.stk.length - lv = k <;> simp [hk]
          · simp [hl]
      rw [← e]; exact t2

def storeA (P : Program) (t : TypeId) (x v : AV) (M : Mem) : Option Mem :=
  match ti P t, x with
  | some i, .ptr a =>
    match getRow M a with
    | some r => if r.ro = false ∧ r.mv = false ∧ v.cells.all AV.st = true ∧ v.cells.length = i.size ∧ a.off % r.es + i.size ≤ r.es then
        some (M.set a.lv a.ix (.row { r with cs := spl r.cs a.off v.cells })) else none
    | none => none
  | _, _ => none

theorem storeA_ok {P : Program} {base : Nat} {μ : Mu} {M M' : Mem} {w : World} {t : TypeId} {x v : AV} {cx cv : Value} {d : Nat} (h : R base μ M w) (hx : VR μ d x cx) (hv : VR μ d v cv) (hl : storeA P t x v M = some M') :
    ∃ w', (Instr.storeAt t cx cv).run P w = .ok () w' ∧ Okay base μ M w μ M' w' := by
  unfold storeA at hl
  split at hl
  · rename_i _ _ i a hi
    split at hl
    · rename_i r hr
      split at hl
      · rename_i hc
        obtain ⟨hro, hmv, hst, hlen, hin⟩ := hc
        cases hl
        have hrow : RowOK base μ w r (μ a.lv a.ix) := h.block _ _ _ (getRow_get hr)
        simp only [VR] at hx
        obtain ⟨_, arr, ha, hlo, hlt, rfl⟩ := hx
        have hw := within hrow ha hlo hlt hin
        have hcells := VRs_lev0 (lim' := 0) (lev0s_of_all hst) (VR_cells hv hst)
        obtain ⟨w', h1, h2, h3⟩ := store_cells (P := P) ha trivial v.cells cv.cells.toList a.off 0 M w r h (getRow_get hr) hro hmv hlo (by omega) hst hcells
        refine ⟨w', ?_, ⟨by simpa using h2, h3, Ext.refl _ _, Mem.depth_set⟩⟩
        have hl2 : cv.cells.size = i.size := by have := VRs_length hcells; simpa [hlen] using this
        simp [Instr.storeAt, Instr.sureAddr, storeVar, ti_size hi, hl2, h1]
      · cases hl
    · cases hl
  · cases hl

end Go.Abs
