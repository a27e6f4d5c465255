/- Cuts, addresses of parts, conversions, and what makes new rows. -/
import Derived.Test.YtlpcbfndjffpfaaAbs5
set_option linter.unusedVariables false
set_option linter.unnecessarySimpa false
set_option linter.unusedSimpArgs false
namespace Go.Abs
open Go.RowKit (Below)

def natOf : AV → Option Nat
  | .int _ n => if 0 ≤ n then some n.toNat else none
  | _ => none
theorem natOf_ok {μ : Mu} {lim : Nat} {x : AV} {cx : Value} {n : Nat} (hx : VR μ lim x cx) (h : natOf x = some n) : ∃ k i, cx = .int k i ∧ 0 ≤ i ∧ i.toNat = n := by
  unfold natOf at h
  split at h
  · split at h
    · cases h; simp only [VR] at hx; exact ⟨_, _, hx, by assumption, rfl⟩
    · cases h
  · cases h

def OVR (μ : Mu) (lim : Nat) : Option AV → Option Value → Prop
  | none, none => True
  | some x, some v => VR μ lim x v
  | _, _ => False
def onat (d : Nat) : Option AV → Option Nat
  | none => some d
  | some x => natOf x

theorem bound_ok {P : Program} {μ : Mu} {lim : Nat} {x : AV} {cx : Value} {n y : Nat} {code : BoundsCode} (w : World) (hx : VR μ lim x cx) (h : natOf x = some n) (hy : n ≤ y) : (Instr.sliceBound cx y code).run P w = .ok n w := by
  obtain ⟨k, i, rfl, h0, rfl⟩ := natOf_ok hx h
  have : i ≤ (y : Int) := by omega
  simp [Instr.sliceBound, asIntOf, h0, this]

/-- x[lo:hi:mx], of a string or a slice. -/
def sliceA (P : Program) (t : TypeId) (x : AV) (lo hi mx : Option AV) (M : Mem) : Option AV :=
  match ti P t with
  | none => none
  | some i =>
    match i.desc, x with
    | .string, .str s =>
      match onat 0 lo, onat s.length hi, mx with
      | some l, some h, none => if l ≤ h ∧ h ≤ s.length then some (.str ((s.take h).drop l)) else none
      | _, _, _ => none
    | .slice e, .nilsl =>
      match ti P e, onat 0 lo, onat 0 hi, onat 0 mx with
      | some _, some l, some h, some m => if l = 0 ∧ h = 0 ∧ m = 0 ∧ (hi.isSome || mx.isNone) = true then some .nilsl else none
      | _, _, _, _ => none
    | .slice e, .sl a n c =>
      match ti P e, getRow M a with
      | some j, some r =>
        match onat 0 lo, onat n hi, mx with
        | some l, some h, none => if l ≤ h ∧ h ≤ n ∧ r.es = j.size then some (.sl { a with off := a.off + l * j.size } (h - l) (c.map (· - l))) else none
        | some l, some h, some m =>
          match natOf m with
          | some k => if l ≤ h ∧ h ≤ k ∧ k ≤ n ∧ hi.isSome = true ∧ r.es = j.size then some (.sl { a with off := a.off + l * j.size } (h - l) (some (k - l))) else none
          | none => none
        | _, _, _ => none
      | _, _ => none
    | _, _ => none

theorem run_bounds {P : Program} {μ : Mu} {lim : Nat} {isS : Bool} {len cap l h m : Nat} {lo hi mx : Option AV} {clo chi cmx : Option Value} (w : World)
    (hlo : OVR μ lim lo clo) (hhi : OVR μ lim hi chi) (hmx : OVR μ lim mx cmx) (h1 : onat 0 lo = some l) (h2 : onat len hi = some h) (h3 : onat cap mx = some m) (hlh : l ≤ h) (hhm : h ≤ m) (hmc : m ≤ cap) (hs : hi.isSome = true ∨ mx = none) :
    (Instr.sliceBounds isS len cap clo chi cmx).run P w = .ok (l, h, m) w := by
  cases hmx' : mx with
  | none =>
    subst hmx'
    cases cmx with
    | some v => simp [OVR] at hmx
    | none =>
      simp only [onat, Option.some.injEq] at h3; subst h3
      cases hhi' : hi with
      | none =>
        subst hhi'
        cases chi with
        | some v => simp [OVR] at hhi
        | none =>
          simp only [onat, Option.some.injEq] at h2; subst h2
          cases hlo' : lo with
          | none =>
            subst hlo'
            cases clo with
            | some v => simp [OVR] at hlo
            | none =>
              simp only [onat, Option.some.injEq] at h1; subst h1
              simp [Instr.sliceBounds]
          | some x =>
            subst hlo'
            cases clo with
            | none => simp [OVR] at hlo
            | some v => simp [Instr.sliceBounds, bound_ok w hlo h1 hlh]
      | some x2 =>
        subst hhi'
        cases chi with
        | none => simp [OVR] at hhi
        | some v2 =>
          cases hlo' : lo with
          | none =>
            subst hlo'
            cases clo with
            | some v => simp [OVR] at hlo
            | none =>
              simp only [onat, Option.some.injEq] at h1; subst h1
              simp [Instr.sliceBounds, bound_ok w hhi h2 hhm]
          | some x =>
            subst hlo'
            cases clo with
            | none => simp [OVR] at hlo
            | some v => simp [Instr.sliceBounds, bound_ok w hhi h2 hhm, bound_ok w hlo h1 hlh]
  | some x3 =>
    subst hmx'
    cases cmx with
    | none => simp [OVR] at hmx
    | some v3 =>
      cases hhi' : hi with
      | none =>
        subst hhi'
        simp at hs
      | some x2 =>
        subst hhi'
        cases chi with
        | none => simp [OVR] at hhi
        | some v2 =>
          cases hlo' : lo with
          | none =>
            subst hlo'
            cases clo with
            | some v => simp [OVR] at hlo
            | none =>
              simp only [onat, Option.some.injEq] at h1; subst h1
              simp [Instr.sliceBounds, bound_ok w hmx h3 hmc, bound_ok w hhi h2 hhm]
          | some x =>
            subst hlo'
            cases clo with
            | none => simp [OVR] at hlo
            | some v => simp [Instr.sliceBounds, bound_ok w hmx h3 hmc, bound_ok w hhi h2 hhm, bound_ok w hlo h1 hlh]

theorem OVR_none {μ : Mu} {lim : Nat} {c : Option Value} (h : OVR μ lim none c) : c = none := by cases c <;> simp [OVR] at h ⊢

theorem sliceA_ok {P : Program} {base : Nat} {μ : Mu} {M : Mem} {w : World} {d : Nat} {t : TypeId} {x v : AV} {lo hi mx : Option AV} {cx : Value} {clo chi cmx : Option Value} (h : R base μ M w)
    (hx : VR μ d x cx) (hlo : OVR μ d lo clo) (hhi : OVR μ d hi chi) (hmx : OVR μ d mx cmx) (hs : sliceA P t x lo hi mx M = some v) :
    ∃ cv, (Instr.sliceAt t cx clo chi cmx).run P w = .ok cv w ∧ VR μ d v cv := by
  unfold sliceA at hs
  split at hs
  · cases hs
  · rename_i i hi'
    obtain ⟨ds, hu, hdesc⟩ := ti_under hi'
    split at hs
    · -- a string
      rename_i s hdd
      rw [hdd] at hdesc
      cases ds <;> simp [tdOf] at hdesc
      split at hs
      · rename_i l hh h1 h2
        split at hs
        · rename_i hc
          cases hs
          simp only [VR] at hx; subst hx
          have hcm := OVR_none hmx
          subst hcm
          have hb := run_bounds (P := P) (isS := false) (len := s.length) (cap := s.length) (mx := none) (cmx := none) w hlo hhi trivial h1 h2 rfl hc.1 hc.2 (Nat.le_refl _) (.inr rfl)
          refine ⟨.string ((⟨⟨s⟩⟩ : ByteArray).extract l hh), ?_, ?_⟩
          · simp only [Instr.sliceAt, Instr.slice, Sem.run_bind, run_underlying hu, Result.andThen_ok, size_mk]
            simp [hb]
          · simp only [VR]
            congr 1
            apply ByteArray.ext
            rw [ByteArray.data_extract]
            apply Array.ext'
            simp [List.extract_eq_take_drop, List.drop_take]
        · cases hs
      · cases hs
    · -- a nil slice
      rename_i e hdd
      rw [hdd] at hdesc
      cases ds <;> simp [tdOf] at hdesc
      subst hdesc
      split at hs
      · rename_i j l hh m hje h1 h2 h3
        split at hs
        · rename_i hc
          obtain ⟨rfl, rfl, rfl, hc4⟩ := hc
          cases hs
          simp only [VR] at hx; subst hx
          have hb := run_bounds (P := P) (isS := true) (len := 0) (cap := 0) w hlo hhi hmx h1 h2 h3 (Nat.le_refl _) (Nat.le_refl _) (Nat.le_refl _) (by
            rcases (Bool.or_eq_true _ _).mp hc4 with h | h
            · exact .inl h
            · exact .inr (by simpa using h))
          refine ⟨.slice none 0 0, ?_, by simp [VR]⟩
          simp only [Instr.sliceAt, Instr.slice, Sem.run_bind, run_underlying hu, Result.andThen_ok]
          rw [hb]
          simp [ti_size hje]
        · cases hs
      · cases hs
    · -- a slice
      rename_i e a n c hdd
      rw [hdd] at hdesc
      cases ds <;> simp [tdOf] at hdesc
      subst hdesc
      split at hs
      · rename_i j r hj hr
        simp only [VR] at hx
        obtain ⟨h0, blk, o, sp, cap, rfl, hn, hcap, hx⟩ := hx
        have hrow : RowOK base μ w r (μ a.lv a.ix) := h.block _ _ _ (getRow_get hr)
        split at hs
        · rename_i l hh h1 h2
          split at hs
          · rename_i hc
            obtain ⟨hlh, hhn, hes⟩ := hc
            cases hs
            have hcm := OVR_none hmx
            subst hcm
            have hb := run_bounds (P := P) (isS := true) (len := n) (cap := cap) (mx := none) (cmx := none) w hlo hhi trivial h1 h2 rfl hlh (by omega) (Nat.le_refl _) (.inr rfl)
            have hsp : cap = l ∨ sp = none := by
              rcases hx with ⟨hx1, hx2⟩ | ⟨hx1, _⟩
              · exact .inl (by omega)
              · exact .inr hx1
            refine ⟨.slice (if cap = l then some ⟨blk, o, sp⟩ else some ⟨blk, o + l * j.size, none⟩) (hh - l) (cap - l), ?_, ?_⟩
            · simp only [Instr.sliceAt, Instr.slice, Sem.run_bind, run_underlying hu, Result.andThen_ok]
              rw [hb]
              rcases hsp with hsp | rfl
              · simp [ti_size hj, hsp]
              · simp [ti_size hj, Addr_add]
            · simp only [VR]
              refine ⟨h0, blk, (if cap = l then o else o + l * j.size), (if cap = l then sp else none), cap - l, by split <;> rfl, by omega, fun m hm => ?_, ?_⟩
              · rw [Option.map_eq_some_iff] at hm
                obtain ⟨k, hk, rfl⟩ := hm
                have := hcap k hk
                omega
              · by_cases hcl : cap = l
                · left; omega
                · right
                  rcases hx with ⟨hx1, hx2⟩ | ⟨hsp', arr, ha, hblk, hlo', ho, hlen, htot, heq⟩
                  · omega
                  · have he := (hrow.each arr ha).1
                    refine ⟨if_neg hcl, arr, ha, hblk, by (try dsimp only); omega, ?_, ?_, ?_, ?_⟩
                    · rw [if_neg hcl]; (try dsimp only); omega
                    · try dsimp only
                      rw [he, hes] at hlen ⊢
                      have e1 : l * j.size + (hh - l) * j.size = hh * j.size := by rw [← Nat.add_mul]; congr 1; omega
                      have := Nat.mul_le_mul_right j.size hhn
                      omega
                    · try dsimp only
                      rw [he, hes] at htot ⊢
                      have e1 : l * j.size + (cap - l) * j.size = cap * j.size := by rw [← Nat.add_mul]; congr 1; omega
                      omega
                    · intro hc0
                      try dsimp only
                      rw [he, hes] at heq ⊢
                      have e1 : l * j.size + (cap - l) * j.size = cap * j.size := by rw [← Nat.add_mul]; congr 1; omega
                      have := heq (by simpa using hc0)
                      omega
          · cases hs
        · rename_i l hh m h1 h2
          split at hs
          · rename_i k hk
            split at hs
            · rename_i hc
              obtain ⟨hlh, hhk, hkn, hhi', hes⟩ := hc
              cases hs
              have hb := run_bounds (P := P) (isS := true) (len := n) (cap := cap) w hlo hhi hmx h1 h2 (by simpa [onat] using hk) hlh hhk (by omega) (.inl hhi')
              have hsp : k = l ∨ sp = none := by
                rcases hx with ⟨hx1, hx2⟩ | ⟨hx1, _⟩
                · exact .inl (by omega)
                · exact .inr hx1
              refine ⟨.slice (if k = l then some ⟨blk, o, sp⟩ else some ⟨blk, o + l * j.size, none⟩) (hh - l) (k - l), ?_, ?_⟩
              · simp only [Instr.sliceAt, Instr.slice, Sem.run_bind, run_underlying hu, Result.andThen_ok]
                rw [hb]
                rcases hsp with hsp | rfl
                · simp [ti_size hj, hsp]
                · simp [ti_size hj, Addr_add]
              · simp only [VR]
                refine ⟨h0, blk, (if k = l then o else o + l * j.size), (if k = l then sp else none), k - l, by split <;> rfl, by omega, fun m hm => by simpa using hm, ?_⟩
                by_cases hcl : k = l
                · left; omega
                · right
                  rcases hx with ⟨hx1, hx2⟩ | ⟨hsp', arr, ha, hblk, hlo', ho, hlen, htot, heq⟩
                  · omega
                  · have he := (hrow.each arr ha).1
                    refine ⟨if_neg hcl, arr, ha, hblk, by (try dsimp only); omega, ?_, ?_, ?_, ?_⟩
                    · rw [if_neg hcl]; (try dsimp only); omega
                    · try dsimp only
                      rw [he, hes] at hlen ⊢
                      have e1 : l * j.size + (hh - l) * j.size = hh * j.size := by rw [← Nat.add_mul]; congr 1; omega
                      have := Nat.mul_le_mul_right j.size (Nat.le_trans hhk hkn)
                      omega
                    · try dsimp only
                      rw [he, hes] at htot ⊢
                      have e1 : l * j.size + (k - l) * j.size = k * j.size := by rw [← Nat.add_mul]; congr 1; omega
                      have := Nat.mul_le_mul_right j.size (Nat.le_trans hkn hn)
                      omega
                    · intro hc0; cases hc0
            · cases hs
          · cases hs
        · cases hs
      · cases hs
    · cases hs

end Go.Abs
