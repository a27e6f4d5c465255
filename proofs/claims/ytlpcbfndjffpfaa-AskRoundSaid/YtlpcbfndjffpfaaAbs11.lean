/- Maps; len, copy, min, max. -/
import Derived.Test.YtlpcbfndjffpfaaAbs10
set_option linter.unusedVariables false
set_option linter.unnecessarySimpa false
set_option linter.unusedSimpArgs false
namespace Go.Abs
open Go.RowKit (Below)

def keyEq : AV → AV → Option Bool
  | .int k a, .int k' b => if k = k' then some (a == b) else none
  | .str a, .str b => some (a == b)
  | .bool a, .bool b => some (a == b)
  | _, _ => none
def TD.keyOf : TD → AV → Bool
  | .int _, .int _ _ => true
  | .string, .str _ => true
  | .bool, .bool _ => true
  | _, _ => false
/-- Where a key stands (from i on). -/
def findA (k : AV) : List (AV × AV) → Nat → Option (Option (Nat × AV))
  | [], _ => some none
  | (k', v) :: es, i =>
    match keyEq k k' with
    | some true => some (some (i, v))
    | some false => findA k es (i + 1)
    | none => none

theorem keyEq_ok {P : Program} {μ : Mu} {lim lim' : Nat} {k k' : AV} {ck ck' : Value} {d : TypeDesc} {b : Bool} (hk : VR μ lim k ck) (hk' : VR μ lim' k' ck') (hd : (tdOf P d).keyOf k = true) (h : keyEq k k' = some b) : Instr.sameNow d ck ck' = some b := by
  unfold keyEq at h
  split at h
  · split at h
    · rename_i he
      cases h
      simp only [VR] at hk hk'
      subst hk; subst hk'; subst he
      cases d <;> simp [tdOf, TD.keyOf] at hd
      simp [Instr.sameNow]
    · cases h
  · cases h
    simp only [VR] at hk hk'
    subst hk; subst hk'
    cases d <;> simp [tdOf, TD.keyOf] at hd
    simp [Instr.sameNow, beq_toListBytes, toList_mk]
  · cases h
    simp only [VR] at hk hk'
    subst hk; subst hk'
    cases d <;> simp [tdOf, TD.keyOf] at hd
    simp [Instr.sameNow]
  · cases h

theorem findA_ok {P : Program} {μ : Mu} {lim : Nat} {k : AV} {ck : Value} {d : TypeDesc} (hk : VR μ lim k ck) (hd : (tdOf P d).keyOf k = true) :
    ∀ (es : List (AV × AV)) (ents : List MapEntry) (i : Nat) (r : Option (Nat × AV)), VRs μ 0 (es.map (·.1)) (ents.map (·.key)) → VRs μ 0 (es.map (·.2)) (ents.map (·.val)) → findA k es i = some r →
      (r = none → Instr.findNow d ck ents i = some none) ∧ (∀ j v, r = some (j, v) → ∃ cv, Instr.findNow d ck ents i = some (some (j, cv)) ∧ VR μ 0 v cv ∧ i ≤ j ∧ j - i < es.length ∧
        ∃ k' ck', (es[j - i]?).map (·.1) = some k' ∧ (ents[j - i]?).map (·.key) = some ck' ∧ keyEq k k' = some true ∧ VR μ 0 k' ck')
  | [], ents, i, r, hks, hvs, h => by
    simp only [List.map_nil, VRs, List.map_eq_nil_iff] at hks
    subst hks
    simp only [findA, Option.some.injEq] at h; subst h
    exact ⟨fun _ => rfl, fun j v hj => by cases hj⟩
  | (k', v) :: es, ents, i, r, hks, hvs, h => by
    simp only [List.map_cons, VRs] at hks hvs
    obtain ⟨ck', cks, he1, hk1, hks⟩ := hks
    obtain ⟨cv, cvs, he2, hv1, hvs⟩ := hvs
    cases ents with
    | nil => simp at he1
    | cons e ents =>
      simp only [List.map_cons, List.cons.injEq] at he1 he2
      obtain ⟨rfl, rfl⟩ := he1
      obtain ⟨rfl, rfl⟩ := he2
      simp only [findA] at h
      split at h
      · rename_i heq
        cases h
        have := keyEq_ok hk hk1 hd heq
        refine ⟨fun hc => (by cases hc), fun j u hj => ?_⟩
        simp only [Option.some.injEq, Prod.mk.injEq] at hj
        obtain ⟨rfl, rfl⟩ := hj
        exact ⟨e.val, by simp [Instr.findNow, this], hv1, Nat.le_refl _, by simp, k', e.key, by simp, by simp, heq, hk1⟩
      · rename_i heq
        have hs := keyEq_ok hk hk1 hd heq
        obtain ⟨ih1, ih2⟩ := findA_ok hk hd es ents (i + 1) r hks hvs h
        refine ⟨fun hr => by simp [Instr.findNow, hs, ih1 hr], fun j u hj => ?_⟩
        obtain ⟨cv, q1, q2, q3, q4, k2, ck2, q5, q6, q7, q8⟩ := ih2 j u hj
        obtain ⟨m, hm⟩ : ∃ m, j - i = m + 1 := ⟨j - i - 1, by omega⟩
        have hm' : j - (i + 1) = m := by omega
        rw [hm'] at q4 q5 q6
        exact ⟨cv, by simp [Instr.findNow, hs, q1], q2, by omega, by simp; omega, k2, ck2, by rw [hm]; simpa using q5, by rw [hm]; simpa using q6, q7, q8⟩
      · cases h

theorem checkKey_ok {P : Program} {t : TypeId} {i : TI} {k : AV} {ck : Value} {b : Bool} (w : World) (hi : ti P t = some i) (hk : i.desc.keyOf k = true) : (Instr.checkKey b 10000 t ck).run P w = .ok () w := by
  obtain ⟨d, hu, hd⟩ := ti_under hi
  rw [hd] at hk
  show (Instr.checkKey b (9999 + 1) t ck).run P w = _
  rw [Instr.checkKey]
  cases d <;> cases k <;> simp [tdOf, TD.keyOf] at hk <;> simp [run_underlying hu]

theorem R.map {base : Nat} {μ : Mu} {M : Mem} {w : World} {m : Nat} {es : List (AV × AV)} (h : R base μ M w) (hg : M.get 0 m = some (.map es)) :
    ∃ arr ents clock, μ 0 m = [arr] ∧ base ≤ arr.blk ∧ w.heap[arr.blk]? = some (.map ents clock) ∧ VRs μ 0 (es.map (·.1)) (ents.toList.map (·.key)) ∧ VRs μ 0 (es.map (·.2)) (ents.toList.map (·.val)) ∧
      (ents.toList.map (·.born)).Pairwise (· < ·) ∧ ∀ e, e ∈ ents.toList → e.born < clock := by
  obtain ⟨arr, h1, h2, ents, clock, h3, h4, h5, h6, h7⟩ := (h.block _ _ _ hg : MapOK base μ w es (μ 0 m)).one
  exact ⟨arr, ents, clock, h1, h2, h3, h4, h5, h6, h7⟩

def getMap (M : Mem) (m : Nat) : Option (List (AV × AV)) := match M.get 0 m with | some (.map es) => some es | _ => none
theorem getMap_get {M : Mem} {m : Nat} {es : List (AV × AV)} (h : getMap M m = some es) : M.get 0 m = some (.map es) := by
  unfold getMap at h; split at h
  · cases h; assumption
  · cases h

def lookupA (P : Program) (t : TypeId) (x k : AV) (ok : Bool) (M : Mem) : Option AV :=
  match ti P t with
  | some i =>
    match i.desc with
    | .map kt et =>
      match ti P kt, ti P et with
      | some ik, some ie =>
        if ik.desc.keyOf k = true then
          match x with
          | .nilmap => some (if ok = true then .tup [ie.zero, .bool false] else ie.zero)
          | .map m =>
            match getMap M m with
            | some es =>
              match findA k es 0 with
              | some none => some (if ok = true then .tup [ie.zero, .bool false] else ie.zero)
              | some (some (_, v)) => some (if ok = true then .tup [v, .bool true] else v)
              | none => none
            | none => none
          | _ => none
        else none
      | _, _ => none
    | _ => none
  | none => none

theorem lookupA_ok {P : Program} {base : Nat} {μ : Mu} {M : Mem} {w : World} {d : Nat} {t : TypeId} {x k v : AV} {cx ck : Value} {ok : Bool} (h : R base μ M w) (hx : VR μ d x cx) (hk : VR μ d k ck) (hs : lookupA P t x k ok M = some v) :
    ∃ cv, (Instr.lookup t cx ck ok).run P w = .ok cv w ∧ VR μ d v cv := by
  unfold lookupA at hs
  split at hs
  · rename_i i hi
    split at hs
    · rename_i kt et hd
      split at hs
      · rename_i ik ie hik hie
        split at hs
        · rename_i hkey
          obtain ⟨ds, hu, hdesc⟩ := ti_under hi
          rw [hd] at hdesc
          cases ds <;> simp [tdOf] at hdesc
          obtain ⟨rfl, rfl⟩ := hdesc
          obtain ⟨dk, huk, hkd⟩ := ti_under hik
          rw [hkd] at hkey
          obtain ⟨z, hz1, hz2⟩ := ti_zero hie w
          have hck2 : ∀ b : Bool, (Instr.checkKey b 10000 kt ck).run P w = .ok () w := fun b => checkKey_ok (ck := ck) (b := b) w hik (by rw [hkd]; exact hkey)
          split at hs
          · cases hs
            simp only [VR] at hx; subst hx
            cases ok
            · exact ⟨z, by simp only [Instr.lookup, Sem.run_bind, run_underlying hu, Result.andThen_ok, Sem.run_pure, hck2, Instr.findKey, run_underlying huk, Instr.findNow, hz1]; rfl, hz2 _ _⟩
            · exact ⟨.tuple #[z, .bool false], by simp only [Instr.lookup, Sem.run_bind, run_underlying hu, Result.andThen_ok, Sem.run_pure, hck2, Instr.findKey, run_underlying huk, Instr.findNow, hz1]; rfl, by simp only [if_true, VR]; exact ⟨_, rfl, VRs_cons (hz2 _ _) (VRs_cons (by simp [VR]) VRs_nil)⟩⟩
          · rename_i m
            simp only [VR] at hx
            obtain ⟨arr, ha, rfl⟩ := hx
            split at hs
            · rename_i es hes
              obtain ⟨arr', ents, clock, h1, h2, h3, h4, h5, h6, h7⟩ := h.map (getMap_get hes)
              rw [h1] at ha; simp only [List.mem_singleton] at ha; subst ha
              have hget : (getObj arr.blk).run P w = .ok (.map ents clock) w := by simp [getObj, Sem.run, h3]
              split at hs
              · rename_i hf
                cases hs
                have hn := (findA_ok hk hkey es ents.toList 0 _ h4 h5 hf).1 rfl
                cases ok
                · exact ⟨z, by simp [Instr.lookup, run_underlying hu, hck2, Instr.findKey, run_underlying huk, hn, hz1, hget], hz2 _ _⟩
                · exact ⟨.tuple #[z, .bool false], by simp [Instr.lookup, run_underlying hu, hck2, Instr.findKey, run_underlying huk, hn, hz1, hget], by simp only [if_true, VR]; exact ⟨_, rfl, VRs_cons (hz2 _ _) (VRs_cons (by simp [VR]) VRs_nil)⟩⟩
              · rename_i j u hf
                cases hs
                obtain ⟨cv, q1, q2, _⟩ := (findA_ok hk hkey es ents.toList 0 _ h4 h5 hf).2 _ _ rfl
                cases ok
                · exact ⟨cv, by simp [Instr.lookup, run_underlying hu, hck2, Instr.findKey, run_underlying huk, q1, hget], VR_lim (Nat.zero_le _) q2⟩
                · exact ⟨.tuple #[cv, .bool true], by simp [Instr.lookup, run_underlying hu, hck2, Instr.findKey, run_underlying huk, q1, hget], by simp only [if_true, VR]; exact ⟨_, rfl, VRs_cons (VR_lim (Nat.zero_le _) q2) (VRs_cons (by simp [VR]) VRs_nil)⟩⟩
              · cases hs
            · cases hs
          · cases hs
        · cases hs
      · cases hs
    · cases hs
  · cases hs

/-- A map's block turns into another one. -/
theorem R.setMap {base : Nat} {μ : Mu} {M : Mem} {w : World} {m : Nat} {es es' : List (AV × AV)} {arr : Arr} {ents : Array MapEntry} {clock : Nat} (h : R base μ M w) (hg : M.get 0 m = some (.map es)) (ha : μ 0 m = [arr])
    (hk : VRs μ 0 (es'.map (·.1)) (ents.toList.map (·.key))) (hv : VRs μ 0 (es'.map (·.2)) (ents.toList.map (·.val))) (hp : (ents.toList.map (·.born)).Pairwise (· < ·)) (hc : ∀ e, e ∈ ents.toList → e.born < clock) :
    Okay base μ M w μ (M.set 0 m (.map es')) { w with heap := w.heap.setIfInBounds arr.blk (.map ents clock) } := by
  obtain ⟨arr', _, _, h1, h2, _⟩ := h.map hg
  rw [ha] at h1; simp only [List.cons.injEq, and_true] at h1; subst h1
  have hlt := h.fresh 0 m arr (by rw [ha]; simp)
  have hself : ({ w with heap := w.heap.setIfInBounds arr.blk (.map ents clock) } : World).heap[arr.blk]? = some (.map ents clock) := by simp [hlt]
  have hoth : ∀ k, k ≠ arr.blk → ({ w with heap := w.heap.setIfInBounds arr.blk (.map ents clock) } : World).heap[k]? = w.heap[k]? := fun k hk => by
    show (w.heap.setIfInBounds _ _)[k]? = _
    rw [Array.getElem?_setIfInBounds_ne]; omega
  have key := R.upd (M' := M.set 0 m (.map es')) (w' := { w with heap := w.heap.setIfInBounds arr.blk (.map ents clock) }) h 0 m (.map es') _ (μ 0 m) hg (Mem.get_set_self hg) (fun lv' ix' hc => Mem.get_set_ne hc)
    (fun x hx => ⟨x, hx, rfl, rfl, rfl, rfl, Nat.le_refl _, rfl⟩)
    (fun x hx => ⟨by rw [ha] at hx; simp at hx; subst hx; exact h2, .inl ⟨x, hx, rfl⟩, by have := h.fresh _ _ _ hx; simpa using this⟩)
    (fun x y hx hy _ => by rw [ha] at hx hy; simp at hx hy; rw [hx, hy])
    (fun k hk hnk => hoth k (fun e => hnk arr (by rw [ha]; simp) e.symm)) (by simp)
    (by rw [Mu.upd_same]; exact ⟨⟨arr, ha, h2, ents, clock, hself, hk, hv, hp, hc⟩⟩)
  rw [Mu.upd_same] at key
  exact ⟨key, ⟨rfl, rfl, rfl, by simp, fun k hk => hoth k (by omega)⟩, Ext.refl _ _, Mem.depth_set⟩

def setAtA (es : List (AV × AV)) (i : Nat) (k v : AV) : List (AV × AV) := es.set i (k, v)
def updateA (P : Program) (t : TypeId) (x k v : AV) (M : Mem) : Option Mem :=
  match ti P t with
  | some i =>
    match i.desc, x with
    | .map kt et, .map m =>
      match ti P kt, getMap M m with
      | some ik, some es =>
        if ik.desc.keyOf k = true ∧ k.lev0 = true ∧ v.lev0 = true then
          match findA k es 0 with
          | some none => some (M.set 0 m (.map (es ++ [(k, v)])))
          | some (some (j, _)) => some (M.set 0 m (.map (es.set j (k, v))))
          | none => none
        else none
      | _, _ => none
    | _, _ => none
  | none => none

theorem sameBits_key {μ : Mu} {lim lim' : Nat} {k k' : AV} {ck ck' : Value} (hk : VR μ lim k ck) (hk' : VR μ lim' k' ck') (h : keyEq k k' = some true) : Instr.sameBits 10000 ck' ck = true := by
  unfold keyEq at h
  split at h
  · split at h
    · rename_i he
      subst he
      simp only [Option.some.injEq, beq_iff_eq] at h
      subst h
      simp only [VR] at hk hk'
      subst hk; subst hk'
      simp [Instr.sameBits]
    · cases h
  · simp only [Option.some.injEq, beq_iff_eq] at h
    subst h
    simp only [VR] at hk hk'
    subst hk; subst hk'
    simp [Instr.sameBits, beq_toListBytes]
  · simp only [Option.some.injEq, beq_iff_eq] at h
    subst h
    simp only [VR] at hk hk'
    subst hk; subst hk'
    simp [Instr.sameBits]
  · cases h

theorem updateA_ok {P : Program} {base : Nat} {μ : Mu} {M M' : Mem} {w : World} {d : Nat} {t : TypeId} {x k v : AV} {cx ck cv : Value} (h : R base μ M w) (hx : VR μ d x cx) (hk : VR μ d k ck) (hv : VR μ d v cv) (hs : updateA P t x k v M = some M') :
    ∃ w', (Instr.mapUpdate t cx ck cv).run P w = .ok () w' ∧ Okay base μ M w μ M' w' := by
  unfold updateA at hs
  split at hs
  · rename_i i hi
    split at hs
    · rename_i kt et m hd
      split at hs
      · rename_i ik es hik hes
        split at hs
        · rename_i hc
          obtain ⟨hkey, hk0, hv0⟩ := hc
          obtain ⟨ds, hu, hdesc⟩ := ti_under hi
          rw [hd] at hdesc
          cases ds <;> simp [tdOf] at hdesc
          obtain ⟨rfl, rfl⟩ := hdesc
          obtain ⟨dk, huk, hkd⟩ := ti_under hik
          have hckk := checkKey_ok (ck := ck) (b := false) w hik hkey
          rw [hkd] at hkey
          simp only [VR] at hx
          obtain ⟨arr, ha, rfl⟩ := hx
          have hg := getMap_get hes
          obtain ⟨arr', ents, clock, h1, h2, h3, h4, h5, h6, h7⟩ := h.map hg
          have ha' := ha
          rw [h1] at ha; simp only [List.mem_singleton] at ha; subst ha
          have hget : (getObj arr.blk).run P w = .ok (.map ents clock) w := by simp [getObj, Sem.run, h3]
          have hset : ∀ o, (setObj arr.blk o).run P w = .ok () { w with heap := w.heap.setIfInBounds arr.blk o } := fun o => by simp [setObj, Sem.run, h3]
          have hk00 := VR_lev0 (lim' := 0) hk0 hk
          have hv00 := VR_lev0 (lim' := 0) hv0 hv
          split at hs
          · rename_i hf
            cases hs
            have hn := (findA_ok hk hkey es ents.toList 0 _ h4 h5 hf).1 rfl
            refine ⟨_, ?_, R.setMap (ents := ents.push { key := ck, val := cv, born := clock }) (clock := clock + 1) h hg h1 ?_ ?_ ?_ ?_⟩
            · simp [Instr.mapUpdate, run_underlying hu, hckk, Instr.findKey, run_underlying huk, hn, hget, hset]
            · simpa using VRs_append h4 (VRs_cons hk00 VRs_nil)
            · simpa using VRs_append h5 (VRs_cons hv00 VRs_nil)
            · simp only [Array.toList_push, List.map_append, List.map_cons, List.map_nil]
              rw [List.pairwise_append]
              refine ⟨h6, by simp, fun a ha b hb => ?_⟩
              simp only [List.mem_map] at ha
              obtain ⟨e, he, rfl⟩ := ha
              simp only [List.mem_singleton] at hb; subst hb
              exact h7 e he
            · intro e he
              simp only [Array.toList_push, List.mem_append, List.mem_singleton] at he
              rcases he with he | rfl
              · have := h7 e he; omega
              · simp
          · rename_i j u hf
            cases hs
            obtain ⟨cv0, q1, q2, q3, q4, k2, ck2, q5, q6, q7, q8⟩ := (findA_ok hk hkey es ents.toList 0 _ h4 h5 hf).2 _ _ rfl
            have hsb := sameBits_key hk q8 q7
            rw [Nat.sub_zero] at q6 q4
            have hjl : j < ents.toList.length := by
              rcases Nat.lt_or_ge j ents.toList.length with hlt | hge
              · exact hlt
              · rw [List.getElem?_eq_none hge] at q6; cases q6
            have hkey' : ((ents[j]?).map (·.key)).getD ck = ck2 := by
              have : (ents[j]?).map (·.key) = some ck2 := by simpa using q6
              rw [this]; rfl
            have hstay : (Instr.keyThatStays (((ents[j]?).map (·.key)).getD ck) ck).run P w = .ok ck w := by
              rw [hkey']; simp [Instr.keyThatStays, hsb]
            have hmod : (ents.modify j fun e => { e with key := ck, val := cv }).toList = ents.toList.set j { key := ck, val := cv, born := (ents.toList[j]'hjl).born } := by
              apply List.ext_getElem?
              intro n
              simp only [Array.toList_modify, List.getElem?_modify, List.getElem?_set]
              by_cases hn : j = n
              · subst hn
                have hjs : j < ents.size := by simpa using hjl
                simp [hjs]
              · simp [hn]
            refine ⟨_, ?_, R.setMap (ents := ents.modify j fun e => { e with key := ck, val := cv }) (clock := clock) h hg h1 ?_ ?_ ?_ ?_⟩
            · simp only [Instr.mapUpdate, Sem.run_bind, run_underlying hu, Result.andThen_ok, hget, hckk, Instr.findKey, run_underlying huk, q1, Sem.run_pure]
              rw [hstay]
              simp only [Result.andThen_ok, hset]
            · rw [hmod, List.map_set, List.map_set]; exact VRs_set j h4 hk00
            · rw [hmod, List.map_set, List.map_set]; exact VRs_set j h5 hv00
            · rw [hmod, List.map_set]
              have : (ents.toList.map (·.born)).set j (ents.toList[j]'hjl).born = ents.toList.map (·.born) := by
                apply List.ext_getElem?
                intro n
                rw [List.getElem?_set]
                split
                · rename_i hn; subst hn
                  have : j < ents.size := by simpa using hjl
                  simp [this]
                · rfl
              rw [this]; exact h6
            · intro e he
              rw [hmod] at he
              rcases List.mem_or_eq_of_mem_set he with he | rfl
              · exact h7 e he
              · show (ents.toList[j]'hjl).born < clock
                exact h7 _ (List.getElem_mem hjl)
          · cases hs
        · cases hs
      · cases hs
    · cases hs
  · cases hs

end Go.Abs
