/- Builtins; every operation that is no call. -/
import Derived.Test.YtlpcbfndjffpfaaAbs11
set_option linter.unusedVariables false
set_option linter.unnecessarySimpa false
set_option linter.unusedSimpArgs false
namespace Go.Abs
open Go.RowKit (Below)

def lenA (P : Program) (t : TypeId) (x : AV) (M : Mem) : Option AV :=
  match ti P t with
  | some i =>
    match i.desc, x with
    | .string, .str l => some (.int .i64 l.length)
    | .slice _, .sl _ n _ => some (.int .i64 n)
    | .slice _, .nilsl => some (.int .i64 0)
    | .map _ _, .nilmap => some (.int .i64 0)
    | .map _ _, .map m => (getMap M m).map fun es => .int .i64 es.length
    | .array n _, _ => some (.int .i64 n)
    | _, _ => none
  | none => none
theorem lenA_ok {P : Program} {base : Nat} {μ : Mu} {M : Mem} {w : World} {d : Nat} {t ty : TypeId} {x v : AV} {cx : Value} (h : R base μ M w) (hx : VR μ d x cx) (hs : lenA P t x M = some v) :
    ∃ cv, (Builtin.len_ #[t] ty #[cx]).run P w = .ok cv w ∧ VR μ d v cv := by
  unfold lenA at hs
  split at hs
  · rename_i i hi
    obtain ⟨ds, hu, hdesc⟩ := ti_under hi
    split at hs
    · rename_i l hd
      cases hs
      rw [hd] at hdesc
      cases ds <;> simp [tdOf] at hdesc
      simp only [VR] at hx; subst hx
      exact ⟨.int .i64 l.length, by simp [Builtin.len_, run_underlying hu, size_mk, goInt], by simp [VR]⟩
    · rename_i e a n c hd
      cases hs
      rw [hd] at hdesc
      cases ds <;> simp [tdOf] at hdesc
      simp only [VR] at hx
      obtain ⟨_, blk, o, sp, cap, rfl, _⟩ := hx
      exact ⟨.int .i64 n, by simp [Builtin.len_, run_underlying hu, goInt], by simp [VR]⟩
    · rename_i e hd
      cases hs
      rw [hd] at hdesc
      cases ds <;> simp [tdOf] at hdesc
      simp only [VR] at hx; subst hx
      exact ⟨.int .i64 0, by simp [Builtin.len_, run_underlying hu, goInt], by simp [VR]⟩
    · rename_i k e hd
      cases hs
      rw [hd] at hdesc
      cases ds <;> simp [tdOf] at hdesc
      simp only [VR] at hx; subst hx
      exact ⟨.int .i64 0, by simp [Builtin.len_, run_underlying hu, goInt], by simp [VR]⟩
    · rename_i k e m hd
      rw [Option.map_eq_some_iff] at hs
      obtain ⟨es, hes, rfl⟩ := hs
      rw [hd] at hdesc
      cases ds <;> simp [tdOf] at hdesc
      simp only [VR] at hx
      obtain ⟨arr, ha, rfl⟩ := hx
      obtain ⟨arr', ents, clock, h1, h2, h3, h4, h5, h6, h7⟩ := h.map (getMap_get hes)
      rw [h1] at ha; simp only [List.mem_singleton] at ha; subst ha
      have hl := VRs_length h4
      simp only [List.length_map, Array.length_toList] at hl
      have hget : (getObj arr.blk).run P w = .ok (.map ents clock) w := by simp [getObj, Sem.run, h3]
      exact ⟨.int .i64 ents.size, by simp [Builtin.len_, run_underlying hu, hget, goInt], by simp [VR, hl]⟩
    · rename_i n e hd
      cases hs
      rw [hd] at hdesc
      cases ds <;> simp [tdOf] at hdesc
      obtain ⟨rfl, rfl⟩ := hdesc
      exact ⟨.int .i64 n, by simp [Builtin.len_, run_underlying hu, goInt], by simp [VR]⟩
    · cases hs
  · cases hs

def minA : List AV → Option AV
  | [.int k x, .int _ y] => some (.int k (if y < x then y else x))
  | _ => none
def maxA : List AV → Option AV
  | [.int k x, .int _ y] => some (.int k (if y > x then y else x))
  | _ => none
theorem minA_ok {P : Program} {μ : Mu} {w : World} {d : Nat} {ts : Array TypeId} {ty : TypeId} {xs : List AV} {v : AV} {cs : Array Value} (hx : VRs μ d xs cs.toList) (hs : minA xs = some v) :
    ∃ cv, (Builtin.min_ ts ty cs).run P w = .ok cv w ∧ VR μ d v cv := by
  unfold minA at hs
  split at hs
  · rename_i k x k' y
    cases hs
    simp only [VRs, VR] at hx
    obtain ⟨y', ys, h1, rfl, y2, ys2, h2, rfl, h3⟩ := hx
    subst h3
    rw [h2] at h1
    exact ⟨.int k (if y < x then y else x), by simp [Builtin.min_, h1, Builtin.min2], by simp [VR]⟩
  · cases hs
theorem maxA_ok {P : Program} {μ : Mu} {w : World} {d : Nat} {ts : Array TypeId} {ty : TypeId} {xs : List AV} {v : AV} {cs : Array Value} (hx : VRs μ d xs cs.toList) (hs : maxA xs = some v) :
    ∃ cv, (Builtin.max_ ts ty cs).run P w = .ok cv w ∧ VR μ d v cv := by
  unfold maxA at hs
  split at hs
  · rename_i k x k' y
    cases hs
    simp only [VRs, VR] at hx
    obtain ⟨y', ys, h1, rfl, y2, ys2, h2, rfl, h3⟩ := hx
    subst h3
    rw [h2] at h1
    exact ⟨.int k (if y > x then y else x), by simp [Builtin.max_, h1, Builtin.max2], by simp [VR]⟩
  · cases hs

def deleteA (P : Program) (t : TypeId) (x k : AV) (M : Mem) : Option Mem :=
  match ti P t with
  | some i =>
    match i.desc with
    | .map kt et =>
      match ti P kt with
      | some ik =>
        if ik.desc.keyOf k = true then
          match x with
          | .nilmap => some M
          | .map m =>
            match getMap M m with
            | some es =>
              match findA k es 0 with
              | some none => some (M.set 0 m (.map es))
              | some (some (j, _)) => some (M.set 0 m (.map (es.eraseIdx j)))
              | none => none
            | none => none
          | _ => none
        else none
      | none => none
    | _ => none
  | none => none

theorem VRs_eraseIdx {μ : Mu} {lim : Nat} : ∀ {xs : List AV} {ys : List Value} (i : Nat), VRs μ lim xs ys → VRs μ lim (xs.eraseIdx i) (ys.eraseIdx i)
  | [], ys, i, h => by simp only [VRs] at h; subst h; simp [VRs]
  | x :: xs, ys, 0, h => by
    simp only [VRs] at h
    obtain ⟨y, ys', rfl, _, h2⟩ := h
    exact h2
  | x :: xs, ys, i + 1, h => by
    simp only [VRs] at h
    obtain ⟨y, ys', rfl, h1, h2⟩ := h
    exact VRs_cons h1 (VRs_eraseIdx i h2)
theorem map_eraseIdx' {α β : Type} (f : α → β) : ∀ (l : List α) (i : Nat), (l.eraseIdx i).map f = (l.map f).eraseIdx i
  | [], i => by simp
  | a :: l, 0 => by simp
  | a :: l, i + 1 => by simp [map_eraseIdx' f l i]

theorem deleteA_ok {P : Program} {base : Nat} {μ : Mu} {M M' : Mem} {w : World} {d : Nat} {t t2 ty : TypeId} {x k : AV} {cx ck : Value} (h : R base μ M w) (hx : VR μ d x cx) (hk : VR μ d k ck) (hs : deleteA P t x k M = some M') :
    ∃ w', (Builtin.delete_ #[t, t2] ty #[cx, ck]).run P w = .ok (.tuple #[]) w' ∧ Okay base μ M w μ M' w' := by
  unfold deleteA at hs
  split at hs
  · rename_i i hi
    split at hs
    · rename_i kt et hd
      split at hs
      · rename_i ik hik
        split at hs
        · rename_i hkey
          obtain ⟨ds, hu, hdesc⟩ := ti_under hi
          rw [hd] at hdesc
          cases ds <;> simp [tdOf] at hdesc
          obtain ⟨rfl, rfl⟩ := hdesc
          obtain ⟨dk, huk, hkd⟩ := ti_under hik
          have hckk : ∀ b : Bool, (Instr.checkKey b 10000 kt ck).run P w = .ok () w := fun b => checkKey_ok (ck := ck) (b := b) w hik hkey
          rw [hkd] at hkey
          split at hs
          · cases hs
            simp only [VR] at hx; subst hx
            refine ⟨w, ?_, Okay.refl h⟩
            simp [Builtin.delete_, run_underlying hu, hckk]
          · rename_i m
            simp only [VR] at hx
            obtain ⟨arr, ha, rfl⟩ := hx
            split at hs
            · rename_i es hes
              have hg := getMap_get hes
              obtain ⟨arr', ents, clock, h1, h2, h3, h4, h5, h6, h7⟩ := h.map hg
              rw [h1] at ha; simp only [List.mem_singleton] at ha; subst ha
              have hget : (getObj arr.blk).run P w = .ok (.map ents clock) w := by simp [getObj, Sem.run, h3]
              have hset : ∀ o, (setObj arr.blk o).run P w = .ok () { w with heap := w.heap.setIfInBounds arr.blk o } := fun o => by simp [setObj, Sem.run, h3]
              split at hs
              · rename_i hf
                cases hs
                have hn := (findA_ok hk hkey es ents.toList 0 _ h4 h5 hf).1 rfl
                refine ⟨_, ?_, R.setMap (ents := ents) (clock := clock) h hg h1 h4 h5 h6 h7⟩
                simp only [Builtin.delete_, Sem.run_bind, List.getElem?_toArray, List.getElem?_cons_zero, List.getElem?_cons_succ, run_underlying hu, Result.andThen_ok, hget, hckk, Instr.findKey, run_underlying huk, hn, Sem.run_pure, hset]
              · rename_i j u hf
                cases hs
                obtain ⟨cv0, q1, _⟩ := (findA_ok hk hkey es ents.toList 0 _ h4 h5 hf).2 _ _ rfl
                have he : (ents.eraseIdxIfInBounds j).toList = ents.toList.eraseIdx j := by
                  unfold Array.eraseIdxIfInBounds
                  split
                  · simp
                  · rename_i hlt
                    rw [List.eraseIdx_of_length_le (by simpa using hlt)]
                refine ⟨_, ?_, R.setMap (ents := ents.eraseIdxIfInBounds j) (clock := clock) h hg h1 ?_ ?_ ?_ ?_⟩
                · simp only [Builtin.delete_, Sem.run_bind, List.getElem?_toArray, List.getElem?_cons_zero, List.getElem?_cons_succ, run_underlying hu, Result.andThen_ok, hget, hckk, Instr.findKey, run_underlying huk, q1, Sem.run_pure, hset]
                · rw [he, map_eraseIdx', map_eraseIdx']; exact VRs_eraseIdx j h4
                · rw [he, map_eraseIdx', map_eraseIdx']; exact VRs_eraseIdx j h5
                · rw [he, map_eraseIdx']; exact h6.sublist (List.eraseIdx_sublist _ _)
                · intro e hm
                  rw [he] at hm
                  exact h7 e ((List.eraseIdx_sublist _ _).mem hm)
              · cases hs
            · cases hs
          · cases hs
        · cases hs
      · cases hs
    · cases hs
  · cases hs

def clearA (P : Program) (t : TypeId) (x : AV) (M : Mem) : Option Mem :=
  match ti P t, x with
  | some i, .map m => match getMap M m with | some _ => some (M.set 0 m (.map [])) | none => none
  | some i, .nilmap => some M
  | _, _ => none
theorem clearA_ok {P : Program} {base : Nat} {μ : Mu} {M M' : Mem} {w : World} {d : Nat} {t ty : TypeId} {x : AV} {cx : Value} (h : R base μ M w) (hx : VR μ d x cx) (hs : clearA P t x M = some M') :
    ∃ w', (Builtin.clear_ #[t] ty #[cx]).run P w = .ok (.tuple #[]) w' ∧ Okay base μ M w μ M' w' := by
  unfold clearA at hs
  split at hs
  · rename_i i m hi
    obtain ⟨ds, hu, hdesc⟩ := ti_under hi
    simp only [VR] at hx
    obtain ⟨arr, ha, rfl⟩ := hx
    split at hs
    · rename_i es hes
      cases hs
      have hg := getMap_get hes
      obtain ⟨arr', ents, clock, h1, h2, h3, h4, h5, h6, h7⟩ := h.map hg
      rw [h1] at ha; simp only [List.mem_singleton] at ha; subst ha
      have hget : (getObj arr.blk).run P w = .ok (.map ents clock) w := by simp [getObj, Sem.run, h3]
      have hset : ∀ o, (setObj arr.blk o).run P w = .ok () { w with heap := w.heap.setIfInBounds arr.blk o } := fun o => by simp [setObj, Sem.run, h3]
      refine ⟨_, ?_, R.setMap (ents := #[]) (clock := clock) (es' := []) h hg h1 (by simp [VRs]) (by simp [VRs]) (by simp) (by simp)⟩
      simp only [Builtin.clear_, Sem.run_bind, List.getElem?_toArray, List.getElem?_cons_zero, run_underlying hu, Result.andThen_ok, hget, Sem.run_pure, hset]
    · cases hs
  · rename_i i hi
    obtain ⟨ds, hu, hdesc⟩ := ti_under hi
    cases hs
    simp only [VR] at hx; subst hx
    refine ⟨w, ?_, Okay.refl h⟩
    simp only [Builtin.clear_, Sem.run_bind, List.getElem?_toArray, List.getElem?_cons_zero, run_underlying hu, Result.andThen_ok, Sem.run_pure]
  · cases hs

end Go.Abs
