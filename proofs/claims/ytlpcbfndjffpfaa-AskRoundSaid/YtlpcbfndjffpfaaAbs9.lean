/- Conversions run; make; append. -/
import Derived.Test.YtlpcbfndjffpfaaAbs8
import Derived.Laws.Append
set_option linter.unusedVariables false
set_option linter.unnecessarySimpa false
set_option linter.unusedSimpArgs false
namespace Go.Abs
open Go.RowKit (Below)

theorem run_convert_no_bytes {P : Program} (w : World) (src e : TypeId) (hs : P.underlying src = some (.slice e)) (he : P.underlying e = some (.int .u8)) (a : Addr) (cap : Nat) :
    ∀ dst, P.underlying dst = some .string → (convert src dst (.slice (some a) 0 cap)).run P w = .ok (.string (strOfNums [])) w := by
  intro dst hd
  have hl : (loadCells a 0).run P w = .ok ([].map (Value.int .u8)).toArray w := by
    simp [loadCells, loadCellsFrom]
  rw [run_convert_bytes_string w src dst e _ 0 cap hs he hd, run_bytesToString w _ 0 cap [] hl, foldl_push_bytes]
  rfl

theorem convA_ok {P : Program} {base : Nat} {μ : Mu} {M M' : Mem} {w : World} {d : Nat} (h : R base μ M w) (h0 : 0 < M.depth) {src dst : TypeId} {hp : Bool} {x v : AV} {cx : Value}
    (hx : VR μ d x cx) (hs : convA P src dst hp x M = some (v, M')) :
    ∃ cv w' μ', (convert src dst cx).run P w = .ok cv w' ∧ VR μ' M.depth v cv ∧ Okay base μ M w μ' M' w' := by
  unfold convA at hs
  split at hs
  · rename_i i j hi hj
    obtain ⟨ds, hu, hdesc⟩ := ti_under hi
    obtain ⟨dd, hud, hddesc⟩ := ti_under hj
    split at hs
    · rename_i k k' n hjd
      cases hs
      rw [hjd] at hddesc
      cases dd <;> simp [tdOf] at hddesc
      subst hddesc
      simp only [VR] at hx; subst hx
      exact ⟨.int k (k.wrap n), w, μ, by simp [convert, run_underlying hu, run_underlying hud, Conv.intToInt], by simp [VR], Okay.refl h⟩
    · rename_i s hjd
      cases hs
      rw [hjd] at hddesc
      cases dd <;> simp [tdOf] at hddesc
      simp only [VR] at hx; subst hx
      exact ⟨.string ⟨⟨s⟩⟩, w, μ, by simp [convert, run_underlying hu, run_underlying hud], by simp [VR], Okay.refl h⟩
    · rename_i k n hjd
      cases hs
      rw [hjd] at hddesc
      cases dd <;> simp [tdOf] at hddesc
      simp only [VR] at hx; subst hx
      exact ⟨.string (Utf8.encode n), w, μ, by simp [convert, run_underlying hu, run_underlying hud, Conv.intToString], by simp [VR], Okay.refl h⟩
    · rename_i e s hid hjd
      split at hs
      · rename_i je hje
        split at hs
        · rename_i hjed
          cases hs
          rw [hjd] at hddesc
          cases dd <;> simp [tdOf] at hddesc
          subst hddesc
          rw [hid] at hdesc
          cases ds <;> simp [tdOf] at hdesc
          obtain ⟨de, hue, hedesc⟩ := ti_under hje
          rw [hjed] at hedesc
          cases de <;> simp [tdOf] at hedesc
          subst hedesc
          simp only [VR] at hx; subst hx
          have hrun := run_bytes_of_string (P := P) w src dst e ⟨⟨s⟩⟩ hu hud hue
          have hge : s.length ≤ grownCap w s.length 0 e := by simp only [grownCap, Question.cut]; omega
          have hrow : (bytesRow ⟨⟨s⟩⟩ (grownCap w s.length 0 e)).toList = (s.map fun b => Value.int .u8 b.toNat) ++ List.replicate (grownCap w s.length 0 e - s.length) (.int .u8 0) := by
            simp [bytesRow, size_mk]
          have hsz : (bytesRow ⟨⟨s⟩⟩ (grownCap w s.length 0 e)).size = grownCap w s.length 0 e := by
            have := congrArg List.length hrow
            simp at this
            rw [this]; omega
          have hR : R base μ M w.drew := h.congr rfl
          obtain ⟨μ', k1, k2⟩ := new_slice (P := P) hR h0 hp e 1 s.length (bytesA s) (bytesRow ⟨⟨s⟩⟩ (grownCap w s.length 0 e)) (grownCap w s.length 0 e) none
            (by rw [bytesA_length, hsz]; exact hge) (Nat.mod_one _) (by rw [hrow, bytesA_length, List.take_append_of_le_length (by simp), List.take_of_length_le (by simp)]; exact VRs_bytesA s) hge
            (by rw [bytesA_length]; omega) (by rw [hsz]; omega) (fun m hm => by cases hm) (fun _ => by rw [hsz]; omega)
            ((bytesRow ⟨⟨s⟩⟩ (grownCap w s.length 0 e)).size, (bytesRow ⟨⟨s⟩⟩ (grownCap w s.length 0 e)).size + 1) (fun j hj => by simp; omega)
          exact ⟨_, _, μ', hrun, k2, ⟨k1.r, (Below.drew (Below.refl _ _)).trans k1.b, k1.e, k1.d⟩⟩
        · cases hs
      · cases hs
    · rename_i x' e hid hjd hn1 hn2
      split at hs
      · rename_i je hje
        split at hs
        · rename_i ys n hjed hsc
          split at hs
          · rename_i hyn
            rw [Option.map_eq_some_iff] at hs
            obtain ⟨s, hts, he⟩ := hs
            cases he
            rw [hjd] at hddesc
            cases dd <;> simp [tdOf] at hddesc
            rw [hid] at hdesc
            cases ds <;> simp [tdOf] at hdesc
            subst hdesc
            obtain ⟨de, hue, hedesc⟩ := ti_under hje
            rw [hjed] at hedesc
            cases de <;> simp [tdOf] at hedesc
            subst hedesc
            unfold sliceCells at hsc
            split at hsc
            · cases hsc
              simp only [textA, Option.some.injEq] at hts; subst hts
              simp only [VR] at hx; subst hx
              exact ⟨_, w, μ, run_convert_bytes_nil w src e hu hue 0 0 dst hud, by simp only [VR]; rfl, Okay.refl h⟩
            · rename_i a m c
              simp only [VR] at hx
              obtain ⟨_, blk, o, sp, cap, rfl, hn, hc, hx⟩ := hx
              split at hsc
              · rename_i hm
                cases hsc
                subst hm
                simp only [textA, Option.some.injEq] at hts; subst hts
                refine ⟨_, w, μ, run_convert_no_bytes w src e hu hue _ cap dst hud, ?_, Okay.refl h⟩
                simp only [VR]; rfl
              · rename_i hm
                split at hsc
                · rename_i r hr
                  cases hsc
                  rcases hx with ⟨h1, _⟩ | ⟨rfl, arr, ha, rfl, hlo, rfl, hlen, _⟩
                  · exact absurd h1 hm
                  · obtain ⟨he, vs, v1, v2, v3⟩ := slice_cells_at h hr ha hlo hlen
                    have hvl := VRs_length v2
                    obtain ⟨xs, rfl, rfl⟩ := textA_nums hts v2
                    have hxl : xs.length = n := by simp at hvl; simp at hyn; omega
                    refine ⟨_, w, μ, run_convert_bytes_arg w src e hu hue arr.blk (arr.sh + (a.off - arr.lo)) n cap xs hxl (fun i hi => ?_) dst hud, by simp only [VR]; rfl, Okay.refl h⟩
                    refine v3 i _ ?_
                    simp [List.getElem?_eq_getElem (show i < xs.length by omega)]
                · cases hsc
            · cases hsc
          · cases hs
        · cases hs
      · cases hs
    · cases hs
  · cases hs

/-! ### make -/
def makeSliceA (P : Program) (t : TypeId) (hp : Bool) (len cap : AV) (M : Mem) : Option (AV × Mem) :=
  match ti P t with
  | some i =>
    match i.desc, natOf len, natOf cap with
    | .slice e, some l, some c =>
      match ti P e with
      | some j =>
        if l ≤ c ∧ c < 9223372036854775808 ∧ j.bytes * c ≤ 281474976710656 ∧ j.zero.cells.length = j.size ∧ j.zero.cells.all AV.st = true ∧ 0 < j.size then
          some (.sl (M.at_ hp) l (some c), M.new hp (.row ⟨e, j.size, zeros j.zero.cells c, false, false⟩)) else none
      | none => none
    | _, _, _ => none
  | none => none

theorem wrap_nat {k : Int} (h0 : 0 ≤ k) (h1 : k < 9223372036854775808) : IntKind.i64.wrap k = k := by
  have e : IntKind.i64.wrap k = (if (k % 18446744073709551616) ≥ 9223372036854775808 then k % 18446744073709551616 - 18446744073709551616 else k % 18446744073709551616) := by
    simp [IntKind.wrap, IntKind.bits, IntKind.signed]
  rw [e]
  split <;> omega

theorem makeSliceA_ok {P : Program} {base : Nat} {μ : Mu} {M M' : Mem} {w : World} {d : Nat} (h : R base μ M w) (h0 : 0 < M.depth) {t : TypeId} {hp : Bool} {len cap v : AV} {clen ccap : Value}
    (hl : VR μ d len clen) (hc : VR μ d cap ccap) (hs : makeSliceA P t hp len cap M = some (v, M')) :
    ∃ cv w' μ', (Instr.makeSlice t clen ccap).run P w = .ok cv w' ∧ VR μ' M.depth v cv ∧ Okay base μ M w μ' M' w' := by
  unfold makeSliceA at hs
  split at hs
  · rename_i i hi
    split at hs
    · rename_i e l c hd hnl hnc
      split at hs
      · rename_i j hj
        split at hs
        · rename_i hcond
          obtain ⟨c1, c2, c3, c4, c5, c6⟩ := hcond
          cases hs
          obtain ⟨ds, hu, hdesc⟩ := ti_under hi
          rw [hd] at hdesc
          cases ds <;> simp [tdOf] at hdesc
          subst hdesc
          obtain ⟨k1, x1, rfl, p1, q1⟩ := natOf_ok hl hnl
          obtain ⟨k2, x2, rfl, p2, q2⟩ := natOf_ok hc hnc
          obtain ⟨info, hin, hin1, hin2⟩ := ti_info hj w
          obtain ⟨z, hz1, hz2⟩ := ti_zero hj w
          have hzc := VR_cells (hz2 μ 0) c5
          have hzl := VRs_length hzc
          have hz0 := VRs_zeros (n := c) hzc
          rw [c4] at hz0
          have w1 : IntKind.i64.wrap x1 = x1 := wrap_nat p1 (by omega)
          have w2 : IntKind.i64.wrap x2 = x2 := wrap_nat p2 (by omega)
          have hbc : ¬ ((info.bytes : Int) * x2 > 281474976710656) := by
            rw [hin2, ← Int.toNat_of_nonneg p2, q2]
            have hq : ((j.bytes * c : Nat) : Int) ≤ 281474976710656 := Int.ofNat_le.2 c3
            rw [Int.natCast_mul] at hq
            exact Int.not_lt.2 hq
          obtain ⟨μ', s1, s2⟩ := new_slice (P := P) h h0 hp e j.size l (zeros j.zero.cells c) ((Array.range (c * j.size)).map fun k => z.cells[k % z.cells.size]!) c (some c)
            (by rw [zeros_length, c4]; simp) (by rw [zeros_length, c4]; simp) (by rw [List.take_of_length_le (by rw [zeros_length, c4]; simp)]; exact hz0) c1
            (by rw [zeros_length, c4]; exact Nat.mul_le_mul_right _ c1) (by simp) (fun m hm => by simpa using hm) (fun hc => by cases hc)
          refine ⟨_, _, μ', ?_, s2, s1⟩
          have hneg : ¬ (x2 < 0) := by omega
          have hneg1 : ¬ (x1 < 0) := by omega
          have hle : ¬ (x1 > x2) := by omega
          have hp48 : ((2 : Int) ^ 48) = 281474976710656 := by rfl
          have hbc' : ¬ ((info.bytes : Int) * x2 > 2 ^ 48) := by rw [hp48]; exact hbc
          have hcond : (((decide (x2 < 0) || decide ((info.bytes : Int) * x2 > 2 ^ 48)) || decide (x1 < 0)) || decide (x1 > x2)) = false := by
            simp only [Bool.or_eq_false_iff, decide_eq_false_iff_not]
            exact ⟨⟨⟨hneg, hbc'⟩, hneg1⟩, hle⟩
          simp only [Instr.makeSlice, Sem.run_bind, run_underlying hu, Result.andThen_ok, asInt, asIntOf, Sem.run_pure, hin, w1, w2]
          rw [hcond]
          simp only [Bool.false_eq_true, if_false, ti_size hj, run_askRoom, Result.andThen_ok, q1, q2, Sem.run_bind]
          by_cases hz : c * j.size = 0
          · have e0 : ((Array.range (c * j.size)).map fun k => z.cells[k % z.cells.size]!) = ((Array.range (c * j.size)).map fun k => (#[] : Array Value)[k % (#[] : Array Value).size]!) := by rw [hz]; simp
            rw [if_pos hz, e0]
            simp only [Sem.run_pure, Result.andThen_ok, newRow, Sem.run_bind, run_newObj]
            rfl
          · rw [if_neg hz]
            simp only [Sem.run_bind, hz1, Sem.run_pure, Result.andThen_ok, newRow, run_newObj]
            rfl
        · cases hs
      · cases hs
    · cases hs
  · cases hs

end Go.Abs
