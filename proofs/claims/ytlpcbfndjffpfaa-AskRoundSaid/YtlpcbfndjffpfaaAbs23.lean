/- The arguments that a law's call finds. -/
import Derived.Test.YtlpcbfndjffpfaaAbs21
set_option linter.unusedVariables false
set_option linter.unnecessarySimpa false
set_option linter.unusedSimpArgs false
namespace Go.Abs
open Go.RowKit (Below)

theorem has_slice {P : Program} {w : World} {r : Reach} {base : Nat} {t e : TypeId} {a : Addr} {len cap : Nat} (ht : P.underlying t = some (.slice e)) (h : Value.okWide P w r base t (.slice (some a) len cap)) : a.spot = none ∧ a.block < w.heap.size := by
  simp only [Value.okWide, ht, Cell.okWide, Cell.ok] at h
  obtain ⟨_, _, _, h1, row, cells, h2, _⟩ := h
  refine ⟨h1, ?_⟩
  unfold World.shape? at h2
  split at h2
  · rename_i c elem fz hg
    exact (Array.getElem?_eq_some_iff.1 hg).1
  · cases h2

def M0 : Mem := ⟨[], []⟩
def mu0 : Mu := fun _ _ => []
theorem R.start (w : World) : R w.heap.size mu0 M0 w := by
  refine ⟨Nat.le_refl _, fun lv ix b h => ?_, fun lv ix h => rfl, fun lv ix arr h => ?_, fun lv ix arr lv' ix' arr' h => ?_⟩
  · unfold Mem.get M0 at h
    split at h
    · simp at h
    · split at h <;> simp at h
  · simp [mu0] at h
  · simp [mu0] at h

/-- A row that is only read. -/
theorem R.ro {base : Nat} {μ : Mu} {M : Mem} {w : World} (h : R base μ M w) (e es : Nat) (cs : List AV) (blk off : Nat) (hb : blk < base) (hes : cs.length % es = 0)
    (hc : ∀ i x, cs[i]? = some x → ∃ v, w.cell? ⟨blk, off + i, none⟩ = some v ∧ VR μ 0 x v) :
    R base (μ.upd 0 M.heap.length [⟨blk, off, 0, cs.length, cs.length, es⟩]) (M.pushH (.row ⟨e, es, cs, true, false⟩)) w ∧ ∀ d, Ext μ (μ.upd 0 M.heap.length [⟨blk, off, 0, cs.length, cs.length, es⟩]) d := by
  have hμ := h.nomu 0 M.heap.length Mem.get_fresh
  have he : ∀ d, Ext μ (μ.upd 0 M.heap.length [⟨blk, off, 0, cs.length, cs.length, es⟩]) d := fun d => Ext_new hμ
  refine ⟨⟨h.size, fun lv ix b hb' => ?_, fun lv ix hn => ?_, fun lv ix arr ha => ?_, fun lv1 ix1 a1 lv2 ix2 a2 h1 h2 hbase heq => ?_⟩, he⟩
  · by_cases hcs : lv = 0 ∧ ix = M.heap.length
    · obtain ⟨rfl, rfl⟩ := hcs
      rw [Mem.get_pushH_self] at hb'; cases hb'
      rw [Mu.upd_self]
      refine RowOK.mk ⟨_, [], rfl, rfl⟩ (fun arr ha => ?_) (fun hr => by cases hr) (fun _ arr ha => ?_) (fun _ => rfl)
      · simp only [List.mem_singleton] at ha; subst ha
        refine ⟨rfl, Nat.zero_mod _, hes, Nat.zero_le _, by simp, Nat.le_refl _, fun j x _ hj hx => ?_⟩
        obtain ⟨v, h1, h2⟩ := hc j x hx
        exact ⟨v, by simpa using h1, VR_ext (he 0) (Nat.le_refl _) h2⟩
      · simp only [List.mem_singleton] at ha; subst ha; exact hb
    · rw [Mem.get_pushH_ne hcs] at hb'
      rw [Mu.upd_ne hcs]
      exact (h.block _ _ _ hb').pres (he 0) fun _ _ => rfl
  · by_cases hcs : lv = 0 ∧ ix = M.heap.length
    · obtain ⟨rfl, rfl⟩ := hcs
      rw [Mem.get_pushH_self] at hn; cases hn
    · rw [Mem.get_pushH_ne hcs] at hn
      rw [Mu.upd_ne hcs]; exact h.nomu _ _ hn
  · by_cases hcs : lv = 0 ∧ ix = M.heap.length
    · obtain ⟨rfl, rfl⟩ := hcs
      rw [Mu.upd_self] at ha
      simp only [List.mem_singleton] at ha; subst ha
      have := h.size
      show blk < _
      omega
    · rw [Mu.upd_ne hcs] at ha; exact h.fresh _ _ _ ha
  · by_cases c1 : lv1 = 0 ∧ ix1 = M.heap.length
    · obtain ⟨rfl, rfl⟩ := c1
      rw [Mu.upd_self] at h1
      simp only [List.mem_singleton] at h1; subst h1
      simp only at hbase; omega
    · rw [Mu.upd_ne c1] at h1
      by_cases c2 : lv2 = 0 ∧ ix2 = M.heap.length
      · obtain ⟨rfl, rfl⟩ := c2
        rw [Mu.upd_self] at h2
        simp only [List.mem_singleton] at h2; subst h2
        simp only at heq; omega
      · rw [Mu.upd_ne c2] at h2
        exact h.excl _ _ _ _ _ _ h1 h2 hbase heq

theorem Step.pushH (k : Nat) (M : Mem) (b : Block) : Step k M (M.pushH b) := by
  refine ⟨rfl, by simp [Mem.pushH], fun lv ix b' hb => .inl ?_⟩
  rw [Mem.get_pushH_ne]
  · exact hb
  · rintro ⟨rfl, rfl⟩
    rw [Mem.get_fresh] at hb; cases hb

/-- Bytes that came in. -/
theorem arg_bytes {base : Nat} {μ : Mu} {M : Mem} {w : World} (h : R base μ M w) (e : TypeId) {a : Option Addr} {len cap : Nat} {zs : List Int} (ho : ∀ x, a = some x → x.spot = none ∧ x.block < base)
    (hr : (a = none ∧ len = 0 ∧ cap = 0 ∧ zs = []) ∨ ∃ x, a = some x ∧ len ≤ cap ∧ cap ≤ maxLen ∧ zs.length = cap ∧ (∀ i, i < zs.length → w.cell? (x.add i) = some (.int .u8 (zs.getD i 0))) ∧ ∀ n ∈ zs, (Lit.int .u8 n).wf = true) :
    ∃ v μ' M' l, R base μ' M' w ∧ (∀ d, Ext μ μ' d) ∧ Step M.heap.length M M' ∧ VR μ' 0 v (.slice a len cap) ∧ RB M' v l ∧ l.length = len := by
  rcases hr with ⟨rfl, rfl, rfl, rfl⟩ | ⟨x, rfl, hlc, hm, hz, hcell, hwf⟩
  · exact ⟨.nilsl, μ, M, [], h, fun d => Ext.refl _ _, Step.refl _ _, by simp [VR], RB.nil, rfl⟩
  · obtain ⟨hs, hb⟩ := ho x rfl
    obtain ⟨blk, off, spot⟩ := x
    simp only at hs hb; subst hs
    have hadd : ∀ i, (⟨blk, off, none⟩ : Addr).add i = ⟨blk, off + i, none⟩ := fun i => by
      unfold Addr.add; split
      · rename_i h0; subst h0; rfl
      · rfl
    have hbd : ∀ n ∈ zs, 0 ≤ n ∧ n < 256 := fun n hn => by
      have := hwf n hn
      simp [Lit.wf, IntKind.min, IntKind.max, IntKind.signed, IntKind.bits] at this
      omega
    obtain ⟨h1, h2⟩ := h.ro e 1 (zs.map (AV.int .u8)) blk off hb (Nat.mod_one _) (fun i x hx => by
      simp only [List.getElem?_map, Option.map_eq_some_iff] at hx
      obtain ⟨n, hn, rfl⟩ := hx
      have hi : i < zs.length := (List.getElem?_eq_some_iff.1 hn).1
      refine ⟨_, by rw [← hadd]; exact hcell i hi, ?_⟩
      simp [VR, hn])
    refine ⟨.sl ⟨0, M.heap.length, 0⟩ len (some cap), _, _, (zs.take len).map fun n => UInt8.ofNat n.toNat, h1, h2, Step.pushH _ _ _, ?_, ?_, by simp; omega⟩
    · simp only [VR]
      refine ⟨Nat.le_refl _, blk, off, none, cap, rfl, hlc, fun m hm => by simpa using hm, .inr ⟨rfl, _, by rw [Mu.upd_self]; exact List.mem_singleton.2 rfl, rfl, Nat.le_refl _, rfl, ?_, ?_, fun hc => by cases hc⟩⟩
      · simp; omega
      · simp; omega
    · refine .inr ⟨⟨0, M.heap.length, 0⟩, some cap, ⟨e, 1, zs.map (AV.int .u8), true, false⟩, by congr 1; simp; omega, by simp only [getRow, Mem.get_pushH_self], rfl, ?_, by simp [bytesA]⟩
      simp only [List.drop_zero, List.length_map, List.length_take, Nat.mul_one, ← List.map_take]
      rw [Nat.min_eq_left (by omega)]
      simp only [bytesA, List.map_map]
      apply List.map_congr_left
      intro n hn
      have := hbd n (List.mem_of_mem_take hn)
      simp only [Function.comp]
      rw [UInt8.toNat_ofNat', Nat.mod_eq_of_lt (by omega)]
      congr 1; omega

/-- From a contract to what the row's shell asks. -/
theorem calls_of_AC {P : Program} {f : FuncId} {args : List AV} {μ : Mu} {M : Mem} {w : World} {cargs : Array Value} {Post : AV → Mem → Prop} (hR : R w.heap.size μ M w) (hv : VRs μ 0 args cargs.toList) (h : AC P f args M Post) (hp : ∀ v M', Post v M' → v = .bool true) :
    Calls P f cargs w fun e w' => e = .returned (.bool true) ∧ Below w.heap.size w w' :=
  (h _ μ w cargs hR (VRs_lim (Nat.zero_le _) hv)).mono fun e w' ⟨v, cv, M', μ', h1, h2, h3, h4⟩ => by
    have hv := hp v M' h4
    subst hv
    simp only [VR] at h2
    subst h2
    exact ⟨h1, h3.b⟩
theorem wf_range {k : IntKind} {n : Int} (h : (Lit.int k n).wf = true) : k.min ≤ n ∧ n ≤ k.max := by
  simpa [Lit.wf] using h
end Go.Abs
