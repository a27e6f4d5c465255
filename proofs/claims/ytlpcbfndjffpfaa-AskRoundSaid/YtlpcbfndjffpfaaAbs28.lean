/- A law's arguments, whatever their type: what is read of them lies in abstract memory. -/
import Derived.Test.YtlpcbfndjffpfaaAbs27
import Derived.ChangeOld
set_option linter.unusedVariables false
set_option linter.unnecessarySimpa false
set_option linter.unusedSimpArgs false
set_option maxRecDepth 4000
namespace Go.Abs
open Go.RowKit (Below)

/-- The kinds of what comes in: numbers, yes or no, texts, lists, rows of fields. -/
inductive K where
  | int (k : IntKind)
  | bool
  | str
  | slice (e es : Nat) (k : K)
  | nil
  | cons (a b : K)

/-- It begins at its row's first cell. -/
def AV.off0 : AV → Bool | .sl a _ _ => a.off == 0 | _ => true
/-- So these cells' values look, in memory. -/
def K.A : K → Mem → List AV → Prop
  | .int k, _, xs => ∃ n, xs = [.int k n] ∧ k.min ≤ n ∧ n ≤ k.max
  | .bool, _, xs => ∃ b, xs = [.bool b]
  | .str, _, xs => ∃ l, xs = [.str l] ∧ l.length ≤ maxLen
  | .slice e es k, M, xs => ∃ (v : AV) (css : List (List AV)), xs = [v] ∧ v.st = true ∧ v.off0 = true ∧ Rd M v es css.flatten css.length ∧ css.length ≤ maxLen ∧ ∀ x, x ∈ css → x.length = es ∧ K.A k M x
  | .nil, _, xs => xs = []
  | .cons a b, M, xs => ∃ ys zs, xs = ys ++ zs ∧ K.A a M ys ∧ K.A b M zs

theorem K.A_step {k' : Nat} {M M' : Mem} (s : Step k' M M') : ∀ {k : K} {xs : List AV}, k.A M xs → k.A M' xs
  | .int k, xs, h => h
  | .bool, xs, h => h
  | .str, xs, h => h
  | .slice e es k, xs, ⟨v, css, h1, h2, h0, h3, h4, h5⟩ => ⟨v, css, h1, h2, h0, h3.step s, h4, fun x hx => ⟨(h5 x hx).1, K.A_step s (h5 x hx).2⟩⟩
  | .nil, xs, h => h
  | .cons a b, xs, ⟨ys, zs, h1, h2, h3⟩ => ⟨ys, zs, h1, K.A_step s h2, K.A_step s h3⟩

theorem K.A_st {M : Mem} : ∀ {k : K} {xs : List AV}, k.A M xs → xs.all AV.st = true
  | .int k, xs, ⟨n, h, _⟩ => by subst h; rfl
  | .bool, xs, ⟨n, h⟩ => by subst h; rfl
  | .str, xs, ⟨n, h, _⟩ => by subst h; rfl
  | .slice e es k, xs, ⟨v, css, h, h2, _⟩ => by subst h; simp [h2]
  | .nil, xs, h => by simp only [K.A] at h; subst h; rfl
  | .cons a b, xs, ⟨ys, zs, h, h2, h3⟩ => by subst h; rw [List.all_append, K.A_st h2, K.A_st h3]; rfl

/-- Whatever memory stands for the world, it can be made longer, so that these values lie there. -/
def Opens (w : World) (cs : List Value) (A : Mem → List AV → Prop) : Prop :=
  ∀ μ M, R w.heap.size μ M w → ∃ xs μ' M', R w.heap.size μ' M' w ∧ (∀ d, Ext μ μ' d) ∧ Step M.heap.length M M' ∧ M'.stk = M.stk ∧ VRs μ' 0 xs cs ∧ A M' xs

theorem Opens.mono {w : World} {cs : List Value} {A B : Mem → List AV → Prop} (h : Opens w cs A) (hab : ∀ M xs, A M xs → B M xs) : Opens w cs B := fun μ M hR =>
  let ⟨xs, μ', M', h1, h2, h3, h4, h5, h6⟩ := h μ M hR
  ⟨xs, μ', M', h1, h2, h3, h4, h5, hab _ _ h6⟩

theorem Opens.here {w : World} {cs : List Value} {A : Mem → List AV → Prop} (xs : List AV) (hv : ∀ μ, VRs μ 0 xs cs) (ha : ∀ M, A M xs) : Opens w cs A := fun μ M hR =>
  ⟨xs, μ, M, hR, fun d => Ext.refl _ _, Step.refl _ _, rfl, hv μ, ha M⟩

theorem Opens.append {w : World} {cs ds : List Value} {a b : K} (h1 : Opens w cs a.A) (h2 : Opens w ds b.A) : Opens w (cs ++ ds) (K.cons a b).A := fun μ M hR => by
  obtain ⟨xs, μ1, M1, r1, e1, s1, t1, v1, a1⟩ := h1 μ M hR
  obtain ⟨ys, μ2, M2, r2, e2, s2, t2, v2, a2⟩ := h2 μ1 M1 r1
  exact ⟨xs ++ ys, μ2, M2, r2, fun d => (e1 d).trans (e2 d), s1.trans (s2.mono s1.h), t2.trans t1, VRs_append (VRs_ext (e2 0) (Nat.le_refl _) v1) v2, xs, ys, rfl, K.A_step s2 a1, a2⟩

/-- Elements, one behind the other. -/
theorem Opens.many {w : World} {k : K} {es : Nat} : ∀ (css : List (List Value)), (∀ c ∈ css, c.length = es ∧ Opens w c k.A) → Opens w css.flatten (fun M xs => ∃ xss : List (List AV), xs = xss.flatten ∧ xss.length = css.length ∧ ∀ x ∈ xss, x.length = es ∧ k.A M x)
  | [], _ => Opens.here [] (fun μ => VRs_nil) (fun M => ⟨[], rfl, rfl, fun x hx => by cases hx⟩)
  | c :: css, h => fun μ M hR => by
    obtain ⟨hl, hc⟩ := h c List.mem_cons_self
    obtain ⟨xs, μ1, M1, r1, e1, s1, t1, v1, a1⟩ := hc μ M hR
    obtain ⟨ys, μ2, M2, r2, e2, s2, t2, v2, xss, rfl, hxl, a2⟩ := Opens.many css (fun x hx => h x (List.mem_cons_of_mem _ hx)) μ1 M1 r1
    refine ⟨xs ++ xss.flatten, μ2, M2, r2, fun d => (e1 d).trans (e2 d), s1.trans (s2.mono s1.h), t2.trans t1, ?_, xs :: xss, rfl, by simp [hxl], fun x hx => ?_⟩
    · rw [List.flatten_cons]; exact VRs_append (VRs_ext (e2 0) (Nat.le_refl _) v1) v2
    · rcases List.mem_cons.1 hx with rfl | hx
      · exact ⟨by have := VRs_length v1; omega, K.A_step s2 a1⟩
      · exact a2 x hx

theorem flatten_len {α : Type} {es : Nat} : ∀ {l : List (List α)}, (∀ x ∈ l, x.length = es) → l.flatten.length = l.length * es
  | [], _ => by simp
  | x :: l, h => by
    rw [List.flatten_cons, List.length_append, flatten_len (fun y hy => h y (List.mem_cons_of_mem _ hy)), h x List.mem_cons_self, List.length_cons, Nat.add_mul]
    omega
theorem flatten_take {α : Type} {es : Nat} : ∀ {l : List (List α)} (n : Nat), (∀ x ∈ l, x.length = es) → l.flatten.take (n * es) = (l.take n).flatten
  | [], n, _ => by simp
  | x :: l, 0, _ => by simp
  | x :: l, n + 1, h => by
    have hx := h x List.mem_cons_self
    rw [List.flatten_cons, List.take_succ_cons, List.flatten_cons, List.take_append, hx, List.take_of_length_le (by rw [hx, Nat.add_mul]; omega)]
    rw [show (n + 1) * es - es = n * es by rw [Nat.add_mul]; omega, flatten_take n (fun y hy => h y (List.mem_cons_of_mem _ hy))]
/-- A list whose elements lie in a row that came in. -/
theorem Opens.slice {w : World} {k : K} {e es len cap blk o : Nat} (hes : 0 < es) (css : List (List Value)) (hcl : css.length = cap) (hlc : len ≤ cap) (hm : cap ≤ maxLen) (hb : blk < w.heap.size)
    (hc : ∀ i c, css.flatten[i]? = some c → w.cell? ⟨blk, o + i, none⟩ = some c) (h : ∀ c ∈ css, c.length = es ∧ Opens w c k.A) : Opens w [.slice (some ⟨blk, o, none⟩) len cap] (K.slice e es k).A := fun μ M hR => by
  obtain ⟨ys, μ1, M1, r1, e1, s1, t1, v1, xss, rfl, hxl, a1⟩ := Opens.many css h μ M hR
  have hfl : xss.flatten.length = cap * es := by rw [flatten_len (fun x hx => (a1 x hx).1), hxl, hcl]
  obtain ⟨r2, e2⟩ := r1.ro e es xss.flatten blk o hb (by rw [hfl]; exact Nat.mul_mod_left _ _) (fun i x hx => by
    obtain ⟨v, hv, hr⟩ := VRs_get i v1 hx
    exact ⟨v, hc i v hv, hr⟩)
  have hst : ∀ x ∈ xss, x.length = es := fun x hx => (a1 x hx).1
  refine ⟨[.sl ⟨0, M1.heap.length, 0⟩ len (some cap)], _, _, r2, fun d => (e1 d).trans (e2 d), s1.trans ((Step.pushH _ _ _).mono s1.h), t1, VRs_cons ?_ VRs_nil, .sl ⟨0, M1.heap.length, 0⟩ len (some cap), xss.take len, rfl, rfl, rfl, ?_, by simp; omega, fun x hx => ?_⟩
  · simp only [VR]
    refine ⟨Nat.le_refl _, blk, o, none, cap, rfl, hlc, fun m hm => by simpa using hm, .inr ⟨rfl, _, by rw [Mu.upd_self]; exact List.mem_singleton.2 rfl, rfl, Nat.le_refl _, rfl, ?_, ?_, fun hc => by cases hc⟩⟩
    · show 0 + len * es ≤ xss.flatten.length
      rw [hfl, Nat.zero_add]; exact Nat.mul_le_mul_right _ hlc
    · show 0 + cap * es ≤ 0 + xss.flatten.length
      rw [hfl]; exact Nat.le_refl _
  · have hl : (xss.take len).length = len := by rw [List.length_take, hxl]; omega
    refine .inr ⟨⟨0, M1.heap.length, 0⟩, some cap, ⟨e, es, xss.flatten, true, false⟩, by rw [hl], by simp only [getRow, Mem.get_pushH_self], rfl, ?_, ?_⟩
    · rw [List.drop_zero, hl]; exact flatten_take len hst
    · exact flatten_len (fun x hx => hst x (List.mem_of_mem_take hx))
  · obtain ⟨h1, h2⟩ := a1 x (List.mem_of_mem_take hx)
    exact ⟨h1, K.A_step (Step.pushH 0 _ _) h2⟩

/-- The kinds of a type. -/
def kindFs (f : TypeId → Option K) (sz : TypeId → Nat) : List (Nat × TypeId × Bool) → Nat → Option (K × Nat)
  | [], o => some (.nil, o)
  | (o', t, _) :: fs, o => if o' = o then (match f t, kindFs f sz fs (o + sz t) with | some a, some (b, e) => some (.cons a b, e) | _, _ => none) else none
def rep (a : K) : Nat → K
  | 0 => .nil
  | n + 1 => .cons a (rep a n)
def szOf (P : Program) (t : TypeId) : Nat := match ti P t with | some j => j.size | none => 0
def kindOf (P : Program) : Nat → TypeId → Option K
  | 0, _ => none
  | d + 1, t =>
    match ti P t with
    | none => none
    | some i =>
      match i.desc with
      | .int k => some (.int k)
      | .bool => some .bool
      | .string => some .str
      | .slice e => match ti P e, kindOf P d e with | some j, some k => if 0 < j.size then some (.slice e j.size k) else none | _, _ => none
      | .struct fs => match kindFs (kindOf P d) (szOf P) fs 0 with | some (k, e) => if e = i.size then some k else none | none => none
      | .array n e => match ti P e, kindOf P d e with | some j, some k => if i.size = n * j.size then some (rep k n) else none | _, _ => none
      | _ => none

theorem mapM_some {α β : Type} {f : α → Option β} : ∀ {l : List α} {ys : List β}, l.mapM f = some ys → ∀ (i : Nat) (a : α), l[i]? = some a → ∃ y, f a = some y ∧ y ∈ ys
  | [], ys, h, i, a, hi => by simp at hi
  | x :: l, ys, h, i, a, hi => by
    simp only [List.mapM_cons, Option.bind_eq_bind, Option.bind_eq_some_iff, Option.pure_def, Option.some.injEq] at h
    obtain ⟨y, hy, zs, hzs, rfl⟩ := h
    cases i with
    | zero =>
      simp only [List.getElem?_cons_zero, Option.some.injEq] at hi; subst hi
      exact ⟨y, hy, List.mem_cons_self⟩
    | succ i =>
      obtain ⟨z, hz, hm⟩ := mapM_some hzs i a (by simpa using hi)
      exact ⟨z, hz, List.mem_cons_of_mem _ hm⟩
theorem cells_some {w : World} {a : Addr} {n : Nat} {c : List Value} (h : w.cells? 0 a n = some c) : c.length = n ∧ ∀ i, i < n → w.cell? (a.add i) = c[i]? := by
  unfold World.cells? at h
  rw [if_pos (Nat.zero_le _)] at h
  have key : ∀ (l : List Nat) (c : List Value), l.mapM (fun i => w.cell? (a.add i)) = some c → c.length = l.length ∧ ∀ (j i : Nat), l[j]? = some i → w.cell? (a.add i) = c[j]? := by
    intro l
    induction l with
    | nil =>
      intro c h
      simp at h; subst h
      exact ⟨rfl, fun j i hj => by simp at hj⟩
    | cons x l ih =>
      intro c h
      simp only [List.mapM_cons, Option.bind_eq_bind, Option.bind_eq_some_iff, Option.pure_def, Option.some.injEq] at h
      obtain ⟨y, hy, zs, hzs, rfl⟩ := h
      obtain ⟨h1, h2⟩ := ih zs hzs
      refine ⟨by simp [h1], fun j i hj => ?_⟩
      cases j with
      | zero =>
        simp only [List.getElem?_cons_zero, Option.some.injEq] at hj; subst hj
        simpa using hy
      | succ j => simpa using h2 j i (by simpa using hj)
  obtain ⟨h1, h2⟩ := key _ c h
  simp only [List.length_range] at h1
  exact ⟨h1, fun i hi => h2 i i (by rw [List.getElem?_range hi])⟩
theorem Addr_add_add {a : Addr} {i j : Nat} : (a.add i).add j = a.add (i + j) := by
  unfold Addr.add
  by_cases hi : i = 0
  · subst hi; simp
  · by_cases hj : j = 0
    · subst hj; simp [hi]
    · rw [if_neg hi, if_neg hj, if_neg (by omega)]
      simp [Nat.add_assoc]
theorem flatten_get {α : Type} {es : Nat} : ∀ {l : List (List α)} {i j : Nat} {c : List α}, (∀ x ∈ l, x.length = es) → l[i]? = some c → j < es → l.flatten[i * es + j]? = c[j]?
  | [], i, j, c, _, hi, _ => by simp at hi
  | x :: l, 0, j, c, h, hi, hj => by
    simp only [List.getElem?_cons_zero, Option.some.injEq] at hi; subst hi
    rw [List.flatten_cons, Nat.zero_mul, Nat.zero_add, List.getElem?_append_left (by rw [h x List.mem_cons_self]; exact hj)]
  | x :: l, i + 1, j, c, h, hi, hj => by
    have hx := h x List.mem_cons_self
    rw [List.flatten_cons, List.getElem?_append_right (by rw [hx, Nat.add_mul]; omega), hx, show (i + 1) * es + j - es = i * es + j by rw [Nat.add_mul]; omega]
    exact flatten_get (fun y hy => h y (List.mem_cons_of_mem _ hy)) (by simpa using hi) hj

theorem Opens.rep {w : World} {k : K} : ∀ (css : List (List Value)), (∀ c ∈ css, Opens w c k.A) → Opens w css.flatten (rep k css.length).A
  | [], _ => Opens.here [] (fun μ => VRs_nil) (fun M => rfl)
  | c :: css, h => Opens.append (h c List.mem_cons_self) (Opens.rep css fun x hx => h x (List.mem_cons_of_mem _ hx))

theorem opens_fields {P : Program} {w : World} {H : Type} {f : TypeId → Option K} {tr : TypeId → List Value → Option (DataW H × List MemPlace)} {cs : List Value}
    (hop : ∀ t k c x, f t = some k → tr t c = some x → c.length = szOf P t → (∀ v ∈ c, v ∈ cs) → Opens w c k.A) (hsz : ∀ t k, f t = some k → P.cellsOf t = szOf P t) :
    ∀ (fs : List Field) (o e : Nat) (k : K) (xs : List (DataW H × List MemPlace)), kindFs f (szOf P) (fs.map fun f => (f.offset, f.type, f.name == "_")) o = some (k, e) → fs.mapM (fun f => tr f.type ((cs.drop f.offset).take (P.cellsOf f.type))) = some xs → e ≤ cs.length →
      o ≤ e ∧ Opens w ((cs.drop o).take (e - o)) k.A
  | [], o, e, k, xs, h, hx, he => by
    simp only [List.map_nil, kindFs, Option.some.injEq, Prod.mk.injEq] at h
    obtain ⟨rfl, rfl⟩ := h
    exact ⟨Nat.le_refl _, by rw [Nat.sub_self, List.take_zero]; exact Opens.here [] (fun μ => VRs_nil) (fun M => rfl)⟩
  | g :: fs, o, e, k, xs, h, hx, he => by
    simp only [List.map_cons, kindFs] at h
    split at h
    · rename_i ho
      split at h
      · rename_i a b e' ha hb
        simp only [Option.some.injEq, Prod.mk.injEq] at h
        obtain ⟨rfl, rfl⟩ := h
        simp only [List.mapM_cons, Option.bind_eq_bind, Option.bind_eq_some_iff, Option.pure_def, Option.some.injEq] at hx
        obtain ⟨y, hy, zs, hzs, rfl⟩ := hx
        obtain ⟨h1, h2⟩ := opens_fields hop hsz fs (o + szOf P g.type) e' b zs hb hzs he
        refine ⟨by omega, ?_⟩
        rw [hsz _ _ ha, ho] at hy
        have h3 := hop _ _ _ _ ha hy (by simp; omega) (fun v hv => List.mem_of_mem_drop (List.mem_of_mem_take hv))
        have e1 : (cs.drop o).take (e' - o) = (cs.drop o).take (szOf P g.type) ++ (cs.drop (o + szOf P g.type)).take (e' - (o + szOf P g.type)) := by
          rw [show e' - o = szOf P g.type + (e' - (o + szOf P g.type)) by omega, List.take_add, List.drop_drop]
        rw [e1]
        exact Opens.append h3 h2
      · cases h
    · cases h

theorem wf_both {k : IntKind} {n : Int} (h : (Lit.int k n).wf = true) : k.min ≤ n ∧ n ≤ k.max := by simpa [Lit.wf] using h

/-- No list in it, or a world with blocks. -/
def Blocks (w : World) (cs : List Value) : Prop := 0 < w.heap.size ∨ ∀ a l c, Value.slice (some a) l c ∉ cs
theorem Blocks.sub {w : World} {cs ds : List Value} (h : Blocks w cs) (hs : ∀ x ∈ ds, x ∈ cs) : Blocks w ds := h.imp id fun h a l c hm => h a l c (hs _ hm)
theorem cell_lt {w : World} {a : Addr} {v : Value} (h : w.cell? a = some v) : a.block < w.heap.size ∧ a.spot = none := by
  unfold World.cell? at h
  split at h
  · rename_i c e fz hg
    refine ⟨(Array.getElem?_eq_some_iff.1 hg).1, ?_⟩
    cases hs : a.spot with
    | none => rfl
    | some sp => rw [hs] at h; simp at h
  · cases h
theorem list_of {α : Type} {p : Nat → α → Prop} : ∀ (n : Nat), (∀ i, i < n → ∃ c, p i c) → ∃ l : List α, l.length = n ∧ ∀ i c, l[i]? = some c → p i c
  | 0, _ => ⟨[], rfl, fun i c h => by simp at h⟩
  | n + 1, h => by
    obtain ⟨l, h1, h2⟩ := list_of n fun i hi => h i (by omega)
    obtain ⟨c, hc⟩ := h n (by omega)
    refine ⟨l ++ [c], by simp [h1], fun i x hx => ?_⟩
    rw [List.getElem?_append] at hx
    split at hx
    · exact h2 i x hx
    · rename_i hi
      have : i = n := by
        have := (List.getElem?_eq_some_iff.1 hx).1
        simp at this; omega
      subst this
      rw [h1] at hx; simp at hx; subst hx; exact hc
theorem Opens.empty {w : World} {k : K} {e es : Nat} {a : Addr} (hb : 0 < w.heap.size) : Opens w [.slice (some a) 0 0] (K.slice e es k).A := fun μ M hR => by
  obtain ⟨blk, o, sp⟩ := a
  obtain ⟨r2, e2⟩ := hR.ro e es [] 0 0 hb (Nat.zero_mod _) (fun i x hx => by simp at hx)
  refine ⟨[.sl ⟨0, M.heap.length, 0⟩ 0 (some 0)], _, _, r2, e2, Step.pushH _ _ _, rfl, VRs_cons ?_ VRs_nil, .sl ⟨0, M.heap.length, 0⟩ 0 (some 0), [], rfl, rfl, rfl, ?_, Nat.zero_le _, fun x hx => by cases hx⟩
  · simp only [VR]
    exact ⟨Nat.le_refl _, blk, o, sp, 0, rfl, Nat.le_refl _, fun m hm => by simpa using hm, .inl (by simp)⟩
  · exact .inr ⟨⟨0, M.heap.length, 0⟩, some 0, ⟨e, es, [], true, false⟩, rfl, by simp only [getRow, Mem.get_pushH_self], rfl, by simp, by simp⟩

theorem opens {P : Program} {w : World} {H : Type} {enc : TypeId × Value → H} : ∀ (d : Nat) (t : TypeId) (k : K) (fuel : Nat) (cs : List Value) (x : DataW H × List MemPlace), kindOf P d t = some k → DataW.trod enc P w 0 (fun _ => true) true fuel t cs = some x → cs.length = szOf P t → Blocks w cs → Opens w cs k.A
  | 0, t, k, fuel, cs, x, hk, h, hl, hn => by cases hk
  | d + 1, t, k, 0, cs, x, hk, h, hl, hn => by cases h
  | d + 1, t, k, fuel + 1, cs, x, hk, h, hl, hn => by
    have hlt := DataW.trod_lt (fuel + 1) t cs x h
    unfold kindOf at hk
    split at hk
    · cases hk
    · rename_i i hi
      have hsz : szOf P t = i.size := by simp [szOf, hi]
      obtain ⟨ds, hu, hdesc⟩ := ti_under hi
      unfold DataW.trod at h
      simp only [hu] at h
      split at hk
      · -- a number
        rename_i kk hd
        rw [hd] at hdesc
        cases ds <;> simp [tdOf] at hdesc
        cases hk; subst hdesc
        split at h
        all_goals first | (exfalso; rename_i heq; cases heq; done) | (exfalso; rename_i heq _; cases heq; done) | (exfalso; rename_i heq _ _; cases heq; done) | (cases h; done) | skip
        rename_i kA kB n heq
        cases heq
        split at h
        · rename_i hc
          obtain ⟨rfl, hwf⟩ := hc
          exact Opens.here [.int _ n] (fun μ => VRs_cons (by simp [VR]) VRs_nil) (fun M => ⟨n, rfl, wf_both hwf⟩)
        · cases h
      · -- yes or no
        rename_i hd
        rw [hd] at hdesc
        cases ds <;> simp [tdOf] at hdesc
        cases hk
        split at h
        all_goals first | (exfalso; rename_i heq; cases heq; done) | (exfalso; rename_i heq _; cases heq; done) | (exfalso; rename_i heq _ _; cases heq; done) | (cases h; done) | skip
        rename_i b heq
        exact Opens.here [.bool b] (fun μ => VRs_cons (by simp [VR]) VRs_nil) (fun M => ⟨b, rfl⟩)
      · -- a text
        rename_i hd
        rw [hd] at hdesc
        cases ds <;> simp [tdOf] at hdesc
        cases hk
        split at h
        all_goals first | (exfalso; rename_i heq; cases heq; done) | (exfalso; rename_i heq _; cases heq; done) | (exfalso; rename_i heq _ _; cases heq; done) | (cases h; done) | skip
        rename_i b heq
        split at h
        · rename_i hc
          exact Opens.here [.str b.data.toList] (fun μ => VRs_cons (by simp [VR]) VRs_nil) (fun M => ⟨_, rfl, by rw [Array.length_toList]; exact hc⟩)
        · cases h
      · -- a list
        rename_i e hd
        rw [hd] at hdesc
        cases ds <;> simp [tdOf] at hdesc
        subst hdesc
        split at hk
        · rename_i j k1 hj hk1
          split at hk
          · rename_i hes
            cases hk
            split at h
            all_goals first | (exfalso; rename_i heq; cases heq; done) | (exfalso; rename_i heq _; cases heq; done) | (exfalso; rename_i heq _ _; cases heq; done) | (cases h; done) | skip
            · rename_i e2 heq
              exact Opens.here [.nilsl] (fun μ => VRs_cons (by simp [VR]) VRs_nil) (fun M => ⟨.nilsl, [], rfl, rfl, rfl, Rd.nil, Nat.zero_le _, fun x hx => by cases hx⟩)
            · rename_i e2 a len cap heq
              cases heq
              split at h
              · rename_i hc
                obtain ⟨_, hlc, hm⟩ := hc
                simp only [Option.bind_eq_some_iff, if_true, Option.map_eq_some_iff] at h
                obtain ⟨elems, h1, rest, h2, rfl⟩ := h
                have hcell : P.cellsOf e = j.size := ti_cellsOf hj
                rw [hcell] at h1 h2
                rcases Nat.eq_zero_or_pos cap with h0 | h0
                · subst h0
                  have hl0 : len = 0 := by omega
                  subst hl0
                  exact Opens.empty (hn.elim id fun h => absurd List.mem_cons_self (h a 0 0))
                have hce : ∀ i, i < cap → ∃ c, w.cells? 0 (a.add (i * j.size)) j.size = some c ∧ ∃ y, DataW.trod enc P w 0 (fun _ => true) true fuel e c = some y := by
                  intro i hi
                  have key : ∃ y, ((w.cells? 0 (a.add (i * j.size)) j.size).bind (DataW.trod enc P w 0 (fun _ => true) true fuel e)) = some y := by
                    rcases Nat.lt_or_ge i len with hlt | hge
                    · obtain ⟨y, hy, _⟩ := mapM_some h1 i i (List.getElem?_range hlt)
                      exact ⟨y, hy⟩
                    · obtain ⟨y, hy, _⟩ := mapM_some h2 (i - len) (i - len) (List.getElem?_range (by omega))
                      exact ⟨y, by rw [show len + (i - len) = i by omega] at hy; exact hy⟩
                  obtain ⟨y, hy⟩ := key
                  rw [Option.bind_eq_some_iff] at hy
                  obtain ⟨c, hc1, hc2⟩ := hy
                  exact ⟨c, hc1, y, hc2⟩
                have h00 : a.block < w.heap.size ∧ a.spot = none := by
                  obtain ⟨c, hc1, _⟩ := hce 0 h0
                  obtain ⟨g1, g2⟩ := cells_some hc1
                  have g3 := g2 0 hes
                  rw [Nat.zero_mul, Addr_add_add, Nat.zero_add] at g3
                  rw [List.getElem?_eq_getElem (by omega)] at g3
                  exact cell_lt g3
                obtain ⟨css, hcl, hcs⟩ := list_of cap (p := fun i c => w.cells? 0 (a.add (i * j.size)) j.size = some c ∧ Opens w c k1.A) fun i hi => by
                  obtain ⟨c, hc1, y, hc2⟩ := hce i hi
                  exact ⟨c, hc1, opens d e k1 fuel c y hk1 hc2 (by rw [(cells_some hc1).1]; simp [szOf, hj]) (.inl (by omega))⟩
                obtain ⟨blk, o, sp⟩ := a
                obtain ⟨hb, hsp⟩ := h00
                simp only at hb hsp
                subst hsp
                have hlen : ∀ x ∈ css, x.length = j.size := fun x hx => by
                  obtain ⟨i, hi⟩ := List.getElem?_of_mem hx
                  exact (cells_some (hcs i x hi).1).1
                refine Opens.slice hes css hcl hlc hm hb (fun i c hi => ?_) (fun c hc => ⟨hlen c hc, ?_⟩)
                · have hfl := flatten_len hlen
                  have hil := (List.getElem?_eq_some_iff.1 hi).1
                  rw [hfl] at hil
                  have hdm := Nat.div_add_mod i j.size
                  have hmod := Nat.mod_lt i hes
                  have hq : i / j.size < css.length := Nat.div_lt_of_lt_mul (by rw [Nat.mul_comm]; exact hil)
                  have hg := List.getElem?_eq_getElem hq
                  rw [← hdm, Nat.mul_comm, flatten_get hlen hg hmod] at hi
                  have := (cells_some (hcs _ _ hg).1).2 _ hmod
                  rw [Addr_add_add, hi, Addr_add, Nat.mul_comm, hdm] at this
                  exact this
                · obtain ⟨i, hi⟩ := List.getElem?_of_mem hc
                  exact (hcs i c hi).2
              · cases h
          · cases hk
        · cases hk
      · -- a struct
        rename_i fs hd
        rw [hd] at hdesc
        cases ds <;> simp [tdOf] at hdesc
        subst hdesc
        simp only at h
        split at hk
        · rename_i k1 e1 hkf
          split at hk
          · rename_i he
            cases hk
            split at h
            · rename_i hcl
              simp only [Option.map_eq_some_iff] at h
              obtain ⟨xs, hxs, rfl⟩ := h
              rw [hsz] at hl
              obtain ⟨_, h2⟩ := opens_fields (P := P) (w := w) (f := kindOf P d) (tr := DataW.trod enc P w 0 (fun _ => true) true fuel) (cs := cs) (fun t k c x hk hx hc hm => opens d t k fuel c x hk hx hc (hn.sub hm)) (fun t k hk => by
                cases d with
                | zero => cases hk
                | succ d =>
                  unfold kindOf at hk
                  split at hk
                  · cases hk
                  · rename_i i2 hi2
                    rw [ti_cellsOf hi2]; simp [szOf, hi2]) _ 0 e1 _ xs hkf hxs (by omega)
              rw [List.drop_zero, Nat.sub_zero, List.take_of_length_le (by omega)] at h2
              exact h2
            · cases h
          · cases hk
        · cases hk
      · -- an array
        rename_i n e hd
        rw [hd] at hdesc
        cases ds <;> simp [tdOf] at hdesc
        obtain ⟨rfl, rfl⟩ := hdesc
        simp only at h
        split at hk
        · rename_i j k1 hj hk1
          split at hk
          · rename_i he
            cases hk
            split at h
            · rename_i hcl
              simp only [Option.map_eq_some_iff] at h
              obtain ⟨xs, hxs, rfl⟩ := h
              rw [ti_cellsOf hj] at hxs
              obtain ⟨css, hcl2, hcs⟩ := list_of n (p := fun i c => c = (cs.drop (i * j.size)).take j.size ∧ Opens w c k1.A) fun i hi => by
                obtain ⟨y, hy, _⟩ := mapM_some hxs i i (List.getElem?_range hi)
                refine ⟨_, rfl, opens d e k1 fuel _ y hk1 hy ?_ (hn.sub fun x hx => List.mem_of_mem_drop (List.mem_of_mem_take hx))⟩
                have : (i + 1) * j.size ≤ n * j.size := Nat.mul_le_mul_right _ hi
                rw [Nat.add_mul] at this
                simp [szOf, hj]; omega
              have hfl : css.flatten = cs := by
                have hlen : ∀ x ∈ css, x.length = j.size := fun x hx => by
                  obtain ⟨i, hi⟩ := List.getElem?_of_mem hx
                  have hlt := (List.getElem?_eq_some_iff.1 hi).1
                  have : (i + 1) * j.size ≤ n * j.size := Nat.mul_le_mul_right _ (by omega)
                  rw [Nat.add_mul] at this
                  rw [(hcs i x hi).1]; simp; omega
                apply List.ext_getElem?
                intro m
                rcases Nat.lt_or_ge m (n * j.size) with hm | hm
                · have hes : 0 < j.size := by
                    rcases Nat.eq_zero_or_pos j.size with h0 | h0
                    · rw [h0] at hm; omega
                    · exact h0
                  have hdm := Nat.div_add_mod m j.size
                  have hmod := Nat.mod_lt m hes
                  have hq : m / j.size < css.length := Nat.div_lt_of_lt_mul (by rw [Nat.mul_comm, hcl2]; exact hm)
                  have hg := List.getElem?_eq_getElem hq
                  have e2 := flatten_get hlen hg hmod
                  rw [Nat.mul_comm, hdm] at e2
                  rw [e2, (hcs _ _ hg).1, List.getElem?_take, if_pos hmod, List.getElem?_drop, Nat.mul_comm, hdm]
                · rw [List.getElem?_eq_none (by rw [flatten_len hlen, hcl2]; exact hm), List.getElem?_eq_none (by omega)]
              have := Opens.rep css fun c hc => by
                obtain ⟨i, hi⟩ := List.getElem?_of_mem hc
                exact (hcs i c hi).2
              rw [hfl, hcl2] at this
              exact this
            · cases h
          · cases hk
        · cases hk
      · cases hk

theorem okCell {P : Program} {w : World} {r : Reach} {base : Nat} {u : TypeId} {v : Value} (h : Cell.okWide P w r base u v) : v.cells = #[v] ∧ ∀ a l c, v = .slice (some a) l c → 0 < w.heap.size := by
  unfold Cell.okWide at h
  split at h
  all_goals first
    | (refine ⟨rfl, fun a l c hc => ?_⟩; cases hc; done)
    | skip
  unfold Cell.ok at h
  split at h
  all_goals first
    | (refine ⟨rfl, fun a l c hc => ?_⟩; cases hc; done)
    | (exact h.elim)
    | skip
  rename_i e a len cap _
  refine ⟨rfl, fun a' l c hc => ?_⟩
  cases hc
  obtain ⟨_, _, _, _, row, cells, h2, _⟩ := h
  unfold World.shape? at h2
  split at h2
  · rename_i c elem fz hg
    have := (Array.getElem?_eq_some_iff.1 hg).1
    omega
  · cases h2

/-- What came in, of a type. -/
def Arg (P : Program) (w : World) (t : TypeId) (v : Value) : Prop :=
  (∃ base, Value.okWide P w .any base t v) ∧ ∃ (H : Type) (enc : TypeId × Value → H) (d : DataW H) (ps : List MemPlace), DataW.Trod enc P w 0 (fun _ => true) true t v d ps

theorem Arg.one {P : Program} {w : World} {t : TypeId} {v : Value} {i : TI} {d : Nat} {k : K} (h : Arg P w t v) (hi : ti P t = some i) (ha : i.isAgg = false) (h1 : i.size = 1) (hk : kindOf P d t = some k) :
    ∀ μ M, R w.heap.size μ M w → ∃ x μ' M', R w.heap.size μ' M' w ∧ (∀ d, Ext μ μ' d) ∧ Step M.heap.length M M' ∧ M'.stk = M.stk ∧ VR μ' 0 x v ∧ k.A M' [x] := by
  obtain ⟨⟨base, hok⟩, H, enc, dd, ps, fuel, ht⟩ := h
  obtain ⟨ds, hu, hdesc⟩ := ti_under hi
  have hc : Cell.okWide P w .any base t v := by
    unfold Value.okWide at hok
    rw [hu] at hok
    cases ds <;> first | exact hok | simp [TI.isAgg, hdesc, tdOf] at ha
  obtain ⟨hcells, hb⟩ := okCell hc
  rw [hcells] at ht
  intro μ M hR
  obtain ⟨xs, μ', M', r, e, s, st, hv, hA⟩ := opens d t k fuel _ _ hk ht (by simp [szOf, hi, h1]) (by
    rcases Nat.eq_zero_or_pos w.heap.size with h0 | h0
    · refine .inr fun a l c hm => ?_
      simp only [List.mem_singleton] at hm
      have := hb a l c (by simpa using hm.symm)
      omega
    · exact .inl h0) μ M hR
  have hl := VRs_length hv
  match xs, hl, hv, hA with
  | [x], _, hv, hA =>
    simp only [VRs] at hv
    obtain ⟨y, ys, hy, hvx, _⟩ := hv
    simp only [List.cons.injEq] at hy
    obtain ⟨rfl, _⟩ := hy
    exact ⟨x, μ', M', r, e, s, st, hvx, hA⟩
  | [], hl, _, _ => simp at hl
  | _ :: _ :: _, hl, _, _ => simp at hl

theorem Arg.agg {P : Program} {w : World} {t : TypeId} {v : Value} {i : TI} {d : Nat} {k : K} (h : Arg P w t v) (hi : ti P t = some i) (ha : i.isAgg = true) (hk : kindOf P d t = some k) :
    ∀ μ M, R w.heap.size μ M w → ∃ xs μ' M', R w.heap.size μ' M' w ∧ (∀ d, Ext μ μ' d) ∧ Step M.heap.length M M' ∧ M'.stk = M.stk ∧ VR μ' 0 (.agg xs) v ∧ k.A M' xs := by
  obtain ⟨⟨base, hok⟩, H, enc, dd, ps, fuel, ht⟩ := h
  obtain ⟨ds, hu, hdesc⟩ := ti_under hi
  have hc : ∃ cs, v = .agg cs ∧ cs.size = P.cellsOf t ∧ Row.okWide P w .any base t cs := by
    unfold Value.okWide at hok
    rw [hu] at hok
    cases ds <;> first | exact hok | simp [TI.isAgg, hdesc, tdOf] at ha
  obtain ⟨cs, rfl, hsz, ts, _, _, hrow⟩ := hc
  intro μ M hR
  obtain ⟨xs, μ', M', r, e, s, st, hv, hA⟩ := opens d t k fuel _ _ hk ht (by simp [Value.cells, hsz, szOf, hi, ti_cellsOf hi]) (by
    rcases Nat.eq_zero_or_pos w.heap.size with h0 | h0
    · refine .inr fun a l c hm => ?_
      obtain ⟨j, hj⟩ := List.getElem?_of_mem hm
      simp only [Value.cells, Array.getElem?_toList] at hj
      obtain ⟨u, _, hcell⟩ := hrow j _ hj
      have := (okCell hcell).2 a l c rfl
      omega
    · exact .inl h0) μ M hR
  exact ⟨xs, μ', M', r, e, s, st, by simp only [VR]; exact ⟨cs, rfl, hv⟩, hA⟩
end Go.Abs
