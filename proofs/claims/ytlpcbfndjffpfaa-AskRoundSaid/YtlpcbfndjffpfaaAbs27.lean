/- A call without addresses leaves memory as it was. -/
import Derived.Test.YtlpcbfndjffpfaaAbs26
import Derived.Test.YtlpcbfndjffpfaaAbs23
set_option linter.unusedVariables false
set_option linter.unnecessarySimpa false
set_option linter.unusedSimpArgs false
namespace Go.Abs
open Go.RowKit (Below)

mutual
/-- No address in it. -/
def AV.flat : AV → Bool
  | .bool _ | .int _ _ | .str _ | .nilptr | .nilsl | .nilmap | .nilchan | .nilfn | .niliface => true
  | .iface _ x => x.flat
  | .fn _ xs ys => flats xs && flats ys
  | .agg cs => flats cs
  | .tup cs => flats cs
  | _ => false
def flats : List AV → Bool
  | [] => true
  | x :: xs => x.flat && flats xs
end
mutual
theorem VR_flat {μ μ' : Mu} {lim lim' : Nat} : ∀ {x : AV} {v : Value}, x.flat = true → VR μ lim x v → VR μ' lim' x v
  | .bool b, v, h0, h | .int k n, v, h0, h | .str l, v, h0, h | .nilptr, v, h0, h | .nilsl, v, h0, h | .nilmap, v, h0, h | .nilchan, v, h0, h | .nilfn, v, h0, h | .niliface, v, h0, h => by
    simpa only [VR] using h
  | .undef, v, h0, h | .ptr _, v, h0, h | .sl _ _ _, v, h0, h | .map _, v, h0, h | .chan _, v, h0, h => by simp [AV.flat] at h0
  | .fn f xs ys, v, h0, h => by
    simp only [AV.flat, Bool.and_eq_true] at h0
    simp only [VR] at h ⊢
    obtain ⟨a, b, rfl, h1, h2⟩ := h
    exact ⟨a, b, rfl, VRs_flat h0.1 h1, VRs_flat h0.2 h2⟩
  | .iface t x, v, h0, h => by
    simp only [AV.flat] at h0
    simp only [VR] at h ⊢
    obtain ⟨y, rfl, h1⟩ := h
    exact ⟨y, rfl, VR_flat h0 h1⟩
  | .agg cs, v, h0, h => by
    simp only [AV.flat] at h0
    simp only [VR] at h ⊢
    obtain ⟨a, rfl, h1⟩ := h
    exact ⟨a, rfl, VRs_flat h0 h1⟩
  | .tup cs, v, h0, h => by
    simp only [AV.flat] at h0
    simp only [VR] at h ⊢
    obtain ⟨a, rfl, h1⟩ := h
    exact ⟨a, rfl, VRs_flat h0 h1⟩
theorem VRs_flat {μ μ' : Mu} {lim lim' : Nat} : ∀ {xs : List AV} {vs : List Value}, flats xs = true → VRs μ lim xs vs → VRs μ' lim' xs vs
  | [], vs, _, h => by simpa only [VRs] using h
  | x :: xs, vs, h0, h => by
    simp only [flats, Bool.and_eq_true] at h0
    simp only [VRs] at h ⊢
    obtain ⟨y, ys, rfl, h1, h2⟩ := h
    exact ⟨y, ys, rfl, VR_flat h0.1 h1, VRs_flat h0.2 h2⟩
end

/-- The world has grown, and no block that was there has changed. -/
theorem R.grown {base : Nat} {μ : Mu} {M : Mem} {w w' : World} (h : R base μ M w) (hb : Below w.heap.size w w') : R base μ M w' :=
  ⟨Nat.le_trans h.size hb.size, fun lv ix b hg => (h.block lv ix b hg).pres (Ext.refl _ _) fun arr ha => hb.block _ (h.fresh lv ix arr ha), h.nomu, fun lv ix arr ha => Nat.lt_of_lt_of_le (h.fresh lv ix arr ha) hb.size, h.excl⟩

theorem AC_closed {P : Program} {f : FuncId} {args : List AV} {M : Mem} {Q : AV → Mem → Prop} (hf : flats args = true) (h : AC P f args M0 Q) (hq : ∀ v M', Q v M' → v.flat = true) :
    AC P f args M (fun v M' => (∃ M1, Q v M1) ∧ M' = M) := by
  intro base μ w cargs hR hv
  refine (h w.heap.size mu0 w cargs (R.start w) (VRs_flat hf hv)).mono fun e w' ⟨v, cv, M1, μ', h1, h2, h3, h4⟩ => ?_
  exact ⟨v, cv, M, μ, h1, VR_flat (hq _ _ h4) h2, ⟨hR.grown h3.b, h3.b.mono hR.size, Ext.refl _ _, rfl⟩, ⟨M1, h4⟩, rfl⟩
/-- For a loop's head: so many slots of no account (rintro of a hundred names takes minutes). -/
theorem exE {α : Type} {p : α → Prop} {q : Prop} (h : ∀ x, p x → q) : (∃ x, p x) → q := fun ⟨x, hx⟩ => h x hx
end Go.Abs
